/- rows.Canonical. flow.Walker.Reach as a plain search: marks and queue. -/
import Derived.Test.YthlckclbjknldaaG11
import Derived.Test.YthlckclbjknldaaG22
import Derived.Test.YthlckclbjknldaaMG
import Derived.Test.YthlckclbjknldaaTj1
namespace Go.Proofs.Ythlckclbjknldaa
set_option linter.unusedVariables false
set_option linter.unusedSimpArgs false
open Go.RowKit
set_option maxRecDepth 100000
attribute [local go_sem] List.set_cons_zero List.set_cons_succ List.map_cons List.map_nil List.take_succ_cons List.take_zero List.drop_zero List.drop_succ_cons C.pl C.one List.all_cons List.all_nil Bool.and_true Nat.mul_one Int.toNat_natCast

theorem cArcs_up3 (f : Nat → Nat) (L : List Ar) : (cArcs L).map (C.up f) = cArcs L := by
 unfold cArcs
 rw [List.map_flatMap]
 rfl
theorem cArcs_ren3 (f : List Nat) (L : List Ar) : (cArcs L).map (C.ren f) = cArcs L := by
 unfold cArcs
 rw [List.map_flatMap]
 rfl
theorem tArcs_of (r : List Ar) : (tArcs r).map C.ofTr = cArcs r := by
 unfold tArcs cArcs
 rw [List.map_flatMap]
 rfl
theorem cut_arcs (q : List Ar) (ys : List C) (f : C → C) (hf : (cArcs q).map f = cArcs q) : ((cArcs q ++ ys).map f).take (q.length * 2) = cArcs q := by
 rw [List.map_append, hf, List.take_append_of_le_length (by rw [cArcs_len]; exact Nat.le_refl _), List.take_of_length_le (by rw [cArcs_len]; exact Nat.le_refl _)]

theorem cArcs_set1 {xs : List Ar} {i : Nat} {e t : Int} (h : xs[i]? = some (e, t)) (x : Int) : (cArcs xs).set (i * 2 + 1) (.v (.int .i64 x)) = cArcs (xs.set i (e, x)) := by
 induction xs generalizing i with
 | nil => simp at h
 | cons a r ih =>
  cases i with
  | zero => simp at h; subst h; rfl
  | succ i =>
   rw [List.getElem?_cons_succ] at h
   rw [show (i + 1) * 2 + 1 = i * 2 + 1 + 2 from by omega, List.set_cons_succ]
   show C.v _ :: C.v _ :: (cArcs r).set (i * 2 + 1) _ = _
   rw [ih h]; rfl
theorem cRows_push (out : List (List Ar)) (x : List Ar) {i : Nat} (h : out.length = i) : (cRows out).take i ++ [C.t 2 (tArcs x)] = cRows (out ++ [x]) := by
 subst h
 rw [List.take_of_length_le (by rw [cRows_len]; exact Nat.le_refl _)]
 simp [cRows]
theorem old_push (l : List Int) (x : Int) : (cInts l).take l.length ++ [C.v (.int .i64 x)] = cInts (l ++ [x]) := by
 rw [List.take_of_length_le (by rw [cInts_len]; exact Nat.le_refl _), cInts_snoc]
theorem NL.start (q : List Ar) (num old : List Int) : NL (numL q num old) q q 0 num old := ⟨by simp, by simp, by simp, rfl⟩
theorem NL.fin {R : List Int × List Int × List Ar} {ya q : List Ar} {k : Nat} {num old : List Int} (h : NL R ya q k num old) (hk : q.length ≤ k) (hl : ya.length = q.length) : ya = R.2.2 ∧ num = R.1 ∧ old = R.2.1 := by
 obtain ⟨h1, h2, h3, h4⟩ := h
 rw [List.drop_of_length_le hk] at h1 h2 h3
 rw [List.take_of_length_le (by omega)] at h1
 simp only [numL, List.append_nil] at h1 h2 h3
 exact ⟨h1, h2, h3⟩
set_option maxHeartbeats 8000000 in
theorem canonA_fc (R : List (List Ar)) (hv : looB R = true) (hn : R.length ≤ 1000000) (hr : ∀ r ∈ R, r.length ≤ 1000000) : FC Try.prog 21 [aLts R] [] (fun r o => o = [.r ⟨27, 1, false, [.t 1 (tRows (canonR R).1)]⟩] ∧ r = .tup [.g [.t 1 (tRows (canonR R).1)], .c (.t 1 (tInts (canonR R).2)), .c (.v (.int .i64 0))]) := by
 refine fc_intro Try.func21 rfl (by rw [Try.ntmps21]; simp) ?_
 rw [Try.ntmps21]
 simp only [enum, aLts]
 have h1 : 1 ≤ R.length := (of_decide_eq_true hv).1
 have hbd := (of_decide_eq_true hv).2.2.2
 (repeat (first | (refine aw_seq ?_; intro K hK) | refine aw_block ?_ | refine aw_region ?_ | (refine lst_x rfl rfl ?_; intro K1 hK1; simp only [go_sem]; (first | refine hK1 _ ?_ | refine andk (hK1 _ ?_)); clear hK1 K1) | ((first | refine lst_nil ?_ | refine aw_skip ?_); refine hK _ ?_; clear hK K)))
 (refine lst_cons rfl ?_; intro K1 hK1; refine (stp_call0 (ids := []) (loose_fc R (by omega) (fun r h => by have := hr r h; omega)) rfl rfl (by simp only [go_sem]) (by kernel_rfl) (by (simp only [List.append_nil, go_sem]) <;> rfl) ?_).stp)
 rintro _ _ ⟨rfl, rfl⟩
 (simp only [aInts, aSets, List.append_nil, List.nil_append, List.length_map, go_sem]; refine hK1 _ ?_; clear hK1 K1)
 (repeat (first | (refine aw_seq ?_; intro K hK) | refine aw_block ?_ | refine aw_region ?_ | (refine lst_x rfl rfl ?_; intro K1 hK1; simp only [go_sem, hv, Bool.not_true]; (first | refine hK1 _ ?_ | refine andk (hK1 _ ?_)); clear hK1 K1) | ((first | refine lst_nil ?_ | refine aw_skip ?_); refine hK _ ?_; clear hK K)))
 (refine aw_cnd ?_; intro X Y hX hY; simp only [go_sem])
 refine hY ?_
 clear hX hY X Y
 (repeat (first | (refine aw_seq ?_; intro K hK) | refine aw_block ?_ | refine aw_region ?_ | (refine lst_x rfl rfl ?_; intro K1 hK1; simp only [go_sem, tRows_len]; (first | refine hK1 _ ?_ | refine andk (hK1 _ ?_)); clear hK1 K1) | ((first | refine lst_nil ?_ | refine aw_skip ?_); refine hK _ ?_; clear hK K)))
 (refine lst_cons rfl ?_; intro K1 hK1; refine stp_callσ (ids := []) [2] (repeat_fc (-1) R.length h1 hn) rfl rfl (by simp only [go_sem]) (by first | assumption | kernel_rfl) rfl rfl (by (simp only [List.map_append, List.append_nil, go_sem]) <;> rfl) (by (simp only [pkh, rInts, cInts, go_sem]) <;> rfl) ?_ ?_)
 ·rintro _ _ ⟨rfl, rfl⟩; rfl
 rintro _ _ ⟨rfl, rfl⟩
 (simp only [aInts, aSets, rInts, cInts_up, List.append_nil, List.nil_append, List.length_map, go_sem]; refine hK1 _ ?_; clear hK1 K1)
 have g0 : 0 < (List.replicate R.length (-1 : Int)).length := by simp; omega
 (repeat (first | (refine aw_seq ?_; intro K hK) | refine aw_block ?_ | refine aw_region ?_ | (refine lst_x rfl rfl ?_; intro K1 hK1; simp only [go_sem, cInts_len, List.length_replicate, ST.put, setC, A0.cells, cInts_set]; (first | refine hK1 _ ?_ | refine andk (hK1 _ ?_)); clear hK1 K1) | ((first | refine lst_nil ?_ | refine aw_skip ?_); refine hK _ ?_; clear hK K)))
 refine aw_le (le_nil 7 32 1 ?_) ?_
 ·simp only [go_sem]
 refine aw_le (le_pick [0, 1, 3, 4, 5] rfl rfl) ?_
 (try simp only [List.set_nil, List.take_nil, List.take_zero, List.map_append, go_sem])
 (try simp only [cInts_ren])
 refine aw_loop (fun x : Nat × List Int × List Int × List (List Ar) => { tm := [(1, .a (.c (.p 0 0))), (2, .a (.c (.p 1 0))), (5, .a (.c (.s 2 R.length))), (6, .a (.c (.s 3 x.2.2.1.length))), (7, .a (.c (.s 4 x.1))), (8, .i x.1)], hp := [.r ⟨27, 1, false, [.t 1 (tRows R)]⟩, .r ⟨27, 1, false, [.v (.slice none 0 0)]⟩, .r ⟨3, 1, true, cInts x.2.1⟩, .r ⟨3, 1, true, cInts x.2.2.1⟩, .r ⟨32, 1, true, cRows x.2.2.2⟩], n := 86, pin := 0 }) (fun x => NumOk R.length x.2.1 x.2.2.1 ∧ NumInj x.2.1 x.2.2.1 ∧ canGo R (R.length - x.1) x.1 x.2.1 x.2.2.1 x.2.2.2 = canonR R ∧ x.1 ≤ x.2.2.1.length ∧ x.2.2.2.length = x.1) (fun x => R.length - x.1) (0, (List.replicate R.length (-1)).set 0 0, [0], []) ?_ ?_ ?_
 ·exact ⟨NumOk.start h1, NumInj.start h1, rfl, by simp, rfl⟩
 ·(refine le_tm ?_; simp only [LeTm, go_sem]; try simp)
 ·rintro ⟨i, num, old, out⟩ ⟨hN, hI, hC, hio, hoi⟩ K hK
  simp only at hN hI hC hio hoi
  have hlen := hN.len
  have hle := hN.le
  by_cases hlt : i < old.length
  ·have d1 : decide ((i : Int) < (old.length : Int)) = true := by simpa using hlt
   have hs0 := hN.st _ (List.getElem_mem hlt)
   obtain ⟨sn, hsn⟩ : ∃ sn : Nat, old[i] = sn := ⟨old[i].toNat, by omega⟩
   have hsl : sn < R.length := by omega
   have go : (cInts old)[i]? = some (.v (.int .i64 sn)) := by rw [← hsn]; exact cInts_get (List.getElem?_eq_getElem hlt)
   have hgR := List.getElem?_eq_getElem hsl
   have hrl := hr _ (List.getElem_mem hsl)
   have hst := canGo_step (rows := R) (n := R.length) (i := i) (num := num) (old := old) (out := out) (s := (sn : Int)) (r := R[sn]) (by omega) (by rw [List.getElem?_eq_getElem hlt, hsn]) (by simp [hgR]) rfl
   generalize hrr : R[sn] = r at *
   have hcl := clone_arcs (tArcs r) (by rw [tArcs_len]; omega)
   rw [tArcs_of, tArcs_len, half2] at hcl
   (repeat (first | (refine aw_seq ?_; intro K hK) | refine aw_block ?_ | refine aw_region ?_ | (refine lst_x rfl rfl ?_; intro K1 hK1; simp only [go_sem, d1]; (first | refine hK1 _ ?_ | refine andk (hK1 _ ?_)); clear hK1 K1) | ((first | refine lst_nil ?_ | refine aw_skip ?_); refine hK _ ?_; clear hK K)))
   (refine aw_cnd ?_; intro X Y hX hY; simp only [go_sem])
   refine hX ?_
   clear hX hY X Y
   (repeat (first | (refine aw_seq ?_; intro K hK) | refine aw_block ?_ | refine aw_region ?_ | (refine lst_x rfl rfl ?_; intro K1 hK1; simp only [go_sem]; (first | refine hK1 _ ?_ | refine andk (hK1 _ ?_)); clear hK1 K1) | ((first | refine lst_nil ?_ | refine aw_skip ?_); refine hK _ ?_; clear hK K)))
   (refine aw_regionU 8 [(0, 0), (1, 1), (2, 0), (3, 0), (4, 0), (5, 1), (6, 0), (7, 1), (8, 2), (9, 0)] (by kernel_rfl) (by kernel_rfl) (by intro c st h; simp [ThenA, InBl, Ret] at h) ?_)
   (repeat (first | ((first | refine u_0x rfl rfl rfl ?_ | refine u_1x rfl rfl rfl ?_); intro K1 hK1; simp only [go_sem, tRows_len, tRows_get hgR, cInts_len, go]; (first | refine hK1 _ ?_ | refine andk (hK1 _ ?_)); clear hK1 K1) | (refine u_2x rfl rfl rfl rfl ?_; intro K1 hK1; simp only [go_sem, tRows_len, tRows_get hgR, cInts_len, go]; (first | refine hK1 _ ?_ | refine andk (hK1 _ ?_)); clear hK1 K1) | (refine u_nil ?_; refine hK _ ?_; clear hK K)))
   (refine u_w rfl rfl rfl ?_; intro K1 hK1; refine (stp_call0 (ids := []) (hcl) rfl rfl (by simp only [go_sem]) (by kernel_rfl) (by (simp only [List.append_nil, go_sem]) <;> rfl) ?_).stp)
   rintro _ _ ⟨rfl, rfl⟩
   (simp only [aInts, aSets, cArcs_up3, List.append_nil, List.nil_append, List.length_map, go_sem]; refine hK1 _ ?_; clear hK1 K1)
   (repeat (first | ((first | refine u_0x rfl rfl rfl ?_ | refine u_1x rfl rfl rfl ?_); intro K1 hK1; simp only [go_sem]; (first | refine hK1 _ ?_ | refine andk (hK1 _ ?_)); clear hK1 K1) | (refine u_2x rfl rfl rfl rfl ?_; intro K1 hK1; simp only [go_sem]; (first | refine hK1 _ ?_ | refine andk (hK1 _ ?_)); clear hK1 K1) | (refine u_nil ?_; refine hK _ ?_; clear hK K)))
   (repeat (first | (refine aw_seq ?_; intro K hK) | refine aw_block ?_ | refine aw_region ?_ | (refine lst_x rfl rfl ?_; intro K1 hK1; simp only [go_sem]; (first | refine hK1 _ ?_ | refine andk (hK1 _ ?_)); clear hK1 K1) | ((first | refine lst_nil ?_ | refine aw_skip ?_); refine hK _ ?_; clear hK K)))
   (refine lst_cons rfl ?_; intro K1 hK1; refine stp_callσ (ids := []) [5] (sortA_fc 35 (by kernel_rfl) rcmp_fc r (by omega)) rfl rfl (by simp only [go_sem]) (by first | assumption | kernel_rfl) rfl rfl (by (simp only [List.map_append, List.append_nil, go_sem]) <;> rfl) (by (simp only [pkh, cArcs_ren3, go_sem]) <;> rfl) ?_ ?_)
   ·rintro _ _ ⟨rfl, L', _, _, rfl⟩; rfl
   rintro _ _ ⟨rfl, L', hperm, hsort, rfl⟩
   (simp only [aInts, aSets, cArcs_up3, List.append_nil, List.nil_append, List.length_map, go_sem]; refine hK1 _ ?_; clear hK1 K1)
   have hLl := hperm.length_eq
   have hq : cmpA L' = rowOf r := by rw [cmpA_comp]; exact comp_sort hperm hsort
   rw [← hLl]
   (repeat (first | (refine aw_seq ?_; intro K hK) | refine aw_block ?_ | refine aw_region ?_ | (refine lst_x rfl rfl ?_; intro K1 hK1; simp only [go_sem]; (first | refine hK1 _ ?_ | refine andk (hK1 _ ?_)); clear hK1 K1) | ((first | refine lst_nil ?_ | refine aw_skip ?_); refine hK _ ?_; clear hK K)))
   (refine lst_cons rfl ?_; intro K1 hK1; refine stp_callσ (ids := []) [5] (compact_arcs L' (by omega)) rfl rfl (by simp only [go_sem]) (by first | assumption | kernel_rfl) rfl rfl (by (simp only [List.map_append, List.append_nil, go_sem]) <;> rfl) (by (simp only [pkh, cArcs_ren3, go_sem]) <;> rfl) ?_ ?_)
   ·rintro _ _ ⟨rfl, rest, us, _, _, rfl⟩; rfl
   rintro _ _ ⟨rfl, rest, us, hrest, hr0, rfl⟩
   (simp only [aInts, aSets, cArcs_up3, List.append_nil, List.nil_append, List.length_map, go_sem]; refine hK1 _ ?_; clear hK1 K1)
   (repeat (first | (refine aw_seq ?_; intro K hK) | refine aw_block ?_ | refine aw_region ?_ | (refine lst_x rfl rfl ?_; intro K1 hK1; simp only [go_sem]; (first | refine hK1 _ ?_ | refine andk (hK1 _ ?_)); clear hK1 K1) | ((first | refine lst_nil ?_ | refine aw_skip ?_); refine hK _ ?_; clear hK K)))
   obtain ⟨q, hqd⟩ : ∃ q, q = rowOf r := ⟨_, rfl⟩
   rw [← hqd] at hq hst
   have hqs : SortA q := by rw [hqd]; exact rowOf_sorted r
   have hql : q.length ≤ 1000000 := by rw [hqd]; exact Nat.le_trans (len_rowOf r) (by omega)
   have hqb : ∀ a ∈ q, 0 ≤ a.2 ∧ a.2 < (R.length : Int) := fun a ha => by
    rw [hqd, mem_rowOf] at ha
    have := hbd r (by rw [← hrr]; exact List.getElem_mem hsl) a ha
    exact ⟨this.2.2.1, this.2.2.2⟩
   rw [hq]
   refine aw_le (le_take 5 (q.length * 2) rfl ?_) ?_
   ·intro _ h
    rw [cut_arcs _ _ _ (cArcs_up3 _ _)] at h
    have hq0 : q = [] := by
     have := congrArg List.length h
     rw [cArcs_len] at this
     exact List.length_eq_zero_iff.1 (by simp at this; omega)
    have hL0 : L' = [] := by
     cases L' with
     | nil => rfl
     | cons x xs =>
      have : cmpA (x :: xs) = [] := by rw [hq, hq0]
      simp [cmpA] at this
    rw [hr0 hL0, hq0]; rfl
   simp only [cut_arcs _ _ _ (cArcs_up3 _ _), go_sem]
   refine aw_loop (fun x : Nat × List Int × List Int × List Ar => { tm := [(1, .a (.c (.p 0 0))), (2, .a (.c (.p 1 0))), (5, .a (.c (.s 2 R.length))), (6, .a (.c (.s 3 x.2.2.1.length))), (7, .a (.c (.s 4 i))), (8, .i i), (9, .a (.c (.s 5 q.length))), (43, .a (.c (.s 5 q.length))), (44, .i q.length), (45, .i x.1)], hp := [.r ⟨27, 1, false, [.t 1 (tRows R)]⟩, .r ⟨27, 1, false, [.v (.slice none 0 0)]⟩, .r ⟨3, 1, true, cInts x.2.1⟩, .r ⟨3, 1, true, cInts x.2.2.1⟩, .r ⟨32, 1, true, cRows out⟩, .r ⟨34, 2, true, cArcs x.2.2.2⟩], n := 86, pin := 0 }) (fun x => x.1 ≤ q.length ∧ x.2.2.2.length = q.length ∧ NumOk R.length x.2.1 x.2.2.1 ∧ old.length ≤ x.2.2.1.length ∧ NL (numL q num old) x.2.2.2 q x.1 x.2.1 x.2.2.1) (fun x => q.length - x.1) (0, num, old, q) ?_ ?_ ?_
   ·exact ⟨by simp, rfl, hN, Nat.le_refl _, NL.start q num old⟩
   ·(refine le_tm ?_; simp only [LeTm, go_sem]; try simp)
   ·rintro ⟨k, num1, old1, ya⟩ ⟨hk, hyl, hN1, hol, hNL⟩ K hK
    simp only at hk hyl hN1 hol hNL
    have hlen1 := hN1.len
    have hle1 := hN1.le
    by_cases hlt2 : k < q.length
    ·have d2 : decide ((k : Int) < (q.length : Int)) = true := by simpa using hlt2
     have hky : k < ya.length := by omega
     have hyq : ya[k] = q[k] := by
      have := congrArg (fun l => l[0]?) hNL.2.2.2
      simp only [List.getElem?_drop, Nat.add_zero] at this
      rw [List.getElem?_eq_getElem hky, List.getElem?_eq_getElem hlt2] at this
      exact Option.some.inj this
     have hyb := hqb _ (List.getElem_mem hlt2)
     rw [← hyq] at hyb
     obtain ⟨e, tn, hya⟩ : ∃ (e : Int) (tn : Nat), ya[k] = (e, (tn : Int)) := ⟨ya[k].1, ya[k].2.toNat, by
      have : (ya[k].2.toNat : Int) = ya[k].2 := by omega
      rw [this]⟩
     have hyk : ya[k]? = some (e, (tn : Int)) := by rw [List.getElem?_eq_getElem hky, hya]
     have htl : tn < R.length := by rw [hya] at hyb; have := hyb.2; simp only at this; omega
     have hat := cArcs_at hky
     rw [hya] at hat
     have gn : (cInts num1)[tn]? = some (.v (.int .i64 num1[tn])) := cInts_get (List.getElem?_eq_getElem (by omega))
     have gn2 : num1[tn]? = some num1[tn] := List.getElem?_eq_getElem (by omega)
     (repeat (first | (refine aw_seq ?_; intro K hK) | refine aw_block ?_ | refine aw_region ?_ | (refine lst_x rfl rfl ?_; intro K1 hK1; simp only [go_sem, d2]; (first | refine hK1 _ ?_ | refine andk (hK1 _ ?_)); clear hK1 K1) | ((first | refine lst_nil ?_ | refine aw_skip ?_); refine hK _ ?_; clear hK K)))
     (refine aw_cnd ?_; intro X Y hX hY; simp only [go_sem])
     refine hX ?_
     clear hX hY X Y
     by_cases hx : num1[tn] < 0
     ·have d3 : decide (num1[tn] < 0) = true := by simpa using hx
      have gs : (cInts (num1.set tn (old1.length : Int)))[tn]? = some (.v (.int .i64 (old1.length : Int))) := cInts_get (List.getElem?_set_self (by omega))
      have op := old_push old1 (tn : Int)
      have cs := cArcs_set1 hyk (old1.length : Int)
      (repeat (first | (refine aw_seq ?_; intro K hK) | refine aw_block ?_ | refine aw_region ?_ | (refine lst_x rfl rfl ?_; intro K1 hK1; simp only [go_sem, hat, cArcs_len, hyl, gn, d3, cInts_len, hlen1, ST.put, setC, A0.cells]; (first | refine hK1 _ ?_ | refine andk (hK1 _ ?_)); clear hK1 K1) | ((first | refine lst_nil ?_ | refine aw_skip ?_); refine hK _ ?_; clear hK K)))
      (refine aw_cnd ?_; intro X Y hX hY; simp only [go_sem])
      refine hX ?_
      clear hX hY X Y
      (repeat (first | (refine aw_seq ?_; intro K hK) | refine aw_block ?_ | refine aw_region ?_ | (refine lst_x rfl rfl ?_; intro K1 hK1; simp only [go_sem, cInts_len, hlen1, ST.put, setC, A0.cells, cInts_set, op, gs, cs, cArcs_len, hyl, List.length_set]; (first | refine hK1 _ ?_ | refine andk (hK1 _ ?_)); clear hK1 K1) | ((first | refine lst_nil ?_ | refine aw_skip ?_); refine hK _ ?_; clear hK K)))
      ((try refine lst_nil ?_); (try refine aw_skip ?_); try simp only [ThenA])
      have hone : numOne num1 old1 (tn : Int) = (num1.set tn (old1.length : Int), old1 ++ [(tn : Int)]) := by
       simp only [numOne, Int.toNat_natCast, List.getD, gn2, Option.getD_some, if_pos hx]
      have hN2 := hN1.one (t := (tn : Int)) (by omega) (by omega)
      rw [hone] at hN2
      refine hK _ (k + 1, num1.set tn (old1.length : Int), old1 ++ [(tn : Int)], ya.set k (e, (old1.length : Int))) ⟨hlt2, by simp [hyl], hN2, by simp; omega, hNL.neg hyk gn2 hx rfl⟩ (by simp only; omega) ?_
      refine Le.trans (le_pick [0, 1, 2, 8, 4, 5] rfl rfl) ?_
      (try simp only [List.set_nil, List.take_nil, List.take_zero, List.map_append, go_sem])
      (try simp only [cInts_ren, cArcs_ren3, cRows_ren])
      simp only [List.length_append, List.length_cons, List.length_nil]
      (refine le_tm ?_; simp only [LeTm, go_sem]; try simp)
     ·have d3 : decide (num1[tn] < 0) = false := by simpa using hx
      have cs := cArcs_set1 hyk num1[tn]
      (repeat (first | (refine aw_seq ?_; intro K hK) | refine aw_block ?_ | refine aw_region ?_ | (refine lst_x rfl rfl ?_; intro K1 hK1; simp only [go_sem, hat, cArcs_len, hyl, gn, d3, cInts_len, hlen1, ST.put, setC, A0.cells]; (first | refine hK1 _ ?_ | refine andk (hK1 _ ?_)); clear hK1 K1) | ((first | refine lst_nil ?_ | refine aw_skip ?_); refine hK _ ?_; clear hK K)))
      (refine aw_cnd ?_; intro X Y hX hY; simp only [go_sem])
      refine hY ?_
      clear hX hY X Y
      (repeat (first | (refine aw_seq ?_; intro K hK) | refine aw_block ?_ | refine aw_region ?_ | (refine lst_x rfl rfl ?_; intro K1 hK1; simp only [go_sem, gn, cs, cArcs_len, hyl, cInts_len, hlen1, ST.put, setC, A0.cells]; (first | refine hK1 _ ?_ | refine andk (hK1 _ ?_)); clear hK1 K1) | ((first | refine lst_nil ?_ | refine aw_skip ?_); refine hK _ ?_; clear hK K)))
      ((try refine lst_nil ?_); (try refine aw_skip ?_); try simp only [ThenA])
      refine hK _ (k + 1, num1, old1, ya.set k (e, num1[tn])) ⟨hlt2, by simp [hyl], hN1, hol, hNL.pos hyk gn2 hx⟩ (by simp only; omega) ?_
      refine Le.trans (le_pick [0, 1, 2, 3, 4, 5] rfl rfl) ?_
      (try simp only [List.set_nil, List.take_nil, List.take_zero, List.map_append, go_sem])
      (try simp only [cInts_ren, cArcs_ren3, cRows_ren])
      (refine le_tm ?_; simp only [LeTm, go_sem]; try simp)
    ·have d2 : decide ((k : Int) < (q.length : Int)) = false := by simpa using hlt2
     obtain ⟨f1, f2, f3⟩ := hNL.fin (by omega) hyl
     have hnd : ya.Nodup := by rw [f1]; exact numL_nodup q hqs (fun a ha => by rw [hlen]; exact hqb a ha) hI
     have hI2 : NumInj num1 old1 := by rw [f2, f3]; exact numL_inj q (fun a ha => by rw [hlen]; exact hqb a ha) hI
     (repeat (first | (refine aw_seq ?_; intro K hK) | refine aw_block ?_ | refine aw_region ?_ | (refine lst_x rfl rfl ?_; intro K1 hK1; simp only [go_sem, d2]; (first | refine hK1 _ ?_ | refine andk (hK1 _ ?_)); clear hK1 K1) | ((first | refine lst_nil ?_ | refine aw_skip ?_); refine hK _ ?_; clear hK K)))
     (refine aw_cnd ?_; intro X Y hX hY; simp only [go_sem])
     refine hY ?_
     clear hX hY X Y
     (refine aw_exit ?_; simp only [ThenA, InBl, reduceIte, Nat.reduceEqDiff]; (first | refine hK _ ?_ | (clear hK K; refine hK _ ?_) | (clear hK K; clear hK K; refine hK _ ?_) | (clear hK K; clear hK K; clear hK K; refine hK _ ?_) | (clear hK K; clear hK K; clear hK K; clear hK K; refine hK _ ?_) | (clear hK K; clear hK K; clear hK K; clear hK K; clear hK K; refine hK _ ?_)); clear hK K)
     rw [← hyl]
     (repeat (first | (refine aw_seq ?_; intro K hK) | refine aw_block ?_ | refine aw_region ?_ | (refine lst_x rfl rfl ?_; intro K1 hK1; simp only [go_sem]; (first | refine hK1 _ ?_ | refine andk (hK1 _ ?_)); clear hK1 K1) | ((first | refine lst_nil ?_ | refine aw_skip ?_); refine hK _ ?_; clear hK K)))
     (refine lst_cons rfl ?_; intro K1 hK1; refine stp_callσ (ids := []) [5] (sortA_fc 35 (by kernel_rfl) rcmp_fc ya (by omega)) rfl rfl (by simp only [go_sem]) (by first | assumption | kernel_rfl) rfl rfl (by (simp only [List.map_append, List.append_nil, go_sem]) <;> rfl) (by (simp only [pkh, cArcs_ren3, go_sem]) <;> rfl) ?_ ?_)
     ·rintro _ _ ⟨rfl, L2, _, _, rfl⟩; rfl
     rintro _ _ ⟨rfl, L2, hp2, hs2, rfl⟩
     (simp only [aInts, aSets, cArcs_up3, List.append_nil, List.nil_append, List.length_map, go_sem]; refine hK1 _ ?_; clear hK1 K1)
     have hL2 : L2 = rowOf ya := sort_nodup hnd hp2 hs2
     have hL2l := hp2.length_eq
     rw [← hL2l]
     (refine lst_le (le_frz (r := ⟨34, 2, true, cArcs L2⟩) 5 (tArcs L2) rfl (fz_ca _) (show 0 < (2 : Nat) by omega)) ?_; simp only [ST.frz, A0.frz, AV.frz, C.frz, Nat.le_refl, List.set_cons_zero, List.set_cons_succ, go_sem, tArcs_len, half2, tArcs_take, List.take_length])
     have crp := cRows_push out L2 hoi
     (repeat (first | (refine aw_seq ?_; intro K hK) | refine aw_block ?_ | refine aw_region ?_ | (refine lst_x rfl rfl ?_; intro K1 hK1; simp only [go_sem, crp, cRows_len, hoi]; (first | refine hK1 _ ?_ | refine andk (hK1 _ ?_)); clear hK1 K1) | ((first | refine lst_nil ?_ | refine aw_skip ?_); refine hK _ ?_; clear hK K)))
     ((try refine lst_nil ?_); (try refine aw_skip ?_); try simp only [ThenA])
     refine hK _ (i + 1, num1, old1, out ++ [L2]) ⟨hN1, hI2, ?_, by simp only; omega, by simp [hoi]⟩ (by simp only; omega) ?_
     ·simp only
      rw [← hC, hst, rowGo_numL, f2, f3, hL2, f1]
      rfl
     ·refine Le.trans (le_pick [0, 1, 2, 3, 7] rfl rfl) ?_
      (try simp only [List.set_nil, List.take_nil, List.take_zero, List.map_append, go_sem])
      (try simp only [cInts_ren, cArcs_ren3, cRows_ren])
      (refine le_tm ?_; simp only [LeTm, go_sem]; try simp)
  ·have d1 : decide ((i : Int) < (old.length : Int)) = false := by simpa using hlt
   have hfin : canonR R = (out, old) := by rw [← hC]; exact canGo_stop (by omega)
   (repeat (first | (refine aw_seq ?_; intro K hK) | refine aw_block ?_ | refine aw_region ?_ | (refine lst_x rfl rfl ?_; intro K1 hK1; simp only [go_sem, d1]; (first | refine hK1 _ ?_ | refine andk (hK1 _ ?_)); clear hK1 K1) | ((first | refine lst_nil ?_ | refine aw_skip ?_); refine hK _ ?_; clear hK K)))
   (refine aw_cnd ?_; intro X Y hX hY; simp only [go_sem])
   refine hY ?_
   clear hX hY X Y
   (refine aw_exit ?_; simp only [ThenA, InBl, reduceIte, Nat.reduceEqDiff]; (first | refine hK _ ?_ | (clear hK K; refine hK _ ?_) | (clear hK K; clear hK K; refine hK _ ?_) | (clear hK K; clear hK K; clear hK K; refine hK _ ?_) | (clear hK K; clear hK K; clear hK K; clear hK K; refine hK _ ?_) | (clear hK K; clear hK K; clear hK K; clear hK K; clear hK K; refine hK _ ?_)); clear hK K)
   have htk : (tRows out).take i = tRows out := List.take_of_length_le (by rw [tRows_len]; omega)
   have htk2 : (tInts old).take old.length = tInts old := List.take_of_length_le (by rw [tInts_len]; exact Nat.le_refl _)
   (refine aw_le (le_frz (r := ⟨32, 1, true, cRows out⟩) 4 (tRows out) rfl (fz_cr _) (show 0 < (1 : Nat) by omega)) ?_; simp only [ST.frz, A0.frz, AV.frz, C.frz, Nat.le_refl, List.set_cons_zero, List.set_cons_succ, go_sem, htk, tRows_len, hoi])
   (refine aw_le (le_frz (r := ⟨3, 1, true, cInts old⟩) 3 (tInts old) rfl (fz_c _) (show 0 < (1 : Nat) by omega)) ?_; simp only [ST.frz, A0.frz, AV.frz, C.frz, Nat.le_refl, List.set_cons_zero, List.set_cons_succ, go_sem, htk2, tInts_len])
   (repeat (first | (refine aw_seq ?_; intro K hK) | refine aw_block ?_ | refine aw_region ?_ | (refine lst_x rfl rfl ?_; intro K1 hK1; simp only [go_sem]; (first | refine hK1 _ ?_ | refine andk (hK1 _ ?_)); clear hK1 K1) | ((first | refine lst_nil ?_ | refine aw_skip ?_); refine hK _ ?_; clear hK K)))
   ((try refine aw_ret ?_); (try simp only [ThenA, InBl]); refine ret_le (le_pick [1] rfl rfl) ?_; (try simp only [List.set_nil, List.take_nil, List.take_zero, List.map_append, go_sem]); ((try refine aw_ret ?_); (try refine lst_nil ?_); (try simp only [ThenA, InBl]); refine ret_mk (by first | exact .inl rfl | exact .inr rfl) rfl ?_; simp only [rtn, resA, resL, resV, Try.results21, go_sem, true_and, and_true]))
   rw [hfin]
   exact ⟨rfl, rfl⟩
end Go.Proofs.Ythlckclbjknldaa
namespace Go.Proofs.Ythlckclbjknldaa
set_option linter.unusedVariables false
set_option linter.unusedSimpArgs false

/-- the search of a Walker: marks equal to the round's number stand for the queue's states -/
structure Fw (E : Nat → List Nat) (n : Nat) (F : List Nat) (rd : Int) (seen : List Int) (out : List Nat) : Prop where
 len : seen.length = n
 st : ∀ u, u < n → (seen.getD u 0 = rd ↔ u ∈ out)
 nd : out.Nodup
 lt : ∀ u ∈ out, u < n
 snd : ∀ u ∈ out, ∃ v ∈ F, Rc E v u
 bd : ∀ x ∈ seen, x ≤ rd
variable {E : Nat → List Nat} {n : Nat} {F : List Nat} {rd : Int} {seen : List Int} {out : List Nat}
theorem Fw.start (h : seen.length = n) (hb : ∀ x ∈ seen, x < rd) : Fw E n F rd seen [] :=
 ⟨h, fun u hu => ⟨fun e => by
  rw [List.getD_eq_getElem?_getD, List.getElem?_eq_getElem (by omega), Option.getD_some] at e
  have := hb _ (List.getElem_mem (show u < seen.length by omega)); omega, fun h => by simp at h⟩, List.nodup_nil, fun u h => by simp at h, fun u h => by simp at h, fun x h => by have := hb x h; omega⟩
theorem Fw.push (h : Fw E n F rd seen out) {u : Nat} (hu : u < n) (hn : seen.getD u 0 ≠ rd) (hs : ∃ v ∈ F, Rc E v u) : Fw E n F rd (seen.set u rd) (out ++ [u]) := by
 have hno : u ∉ out := fun hm => hn ((h.st u hu).2 hm)
 refine ⟨by rw [List.length_set]; exact h.len, fun w hw => ?_, ?_, fun w hw => ?_, fun w hw => ?_, fun x hx => ?_⟩
 ·rw [List.getD_eq_getElem?_getD, List.getElem?_set]
  by_cases e : u = w
  ·subst e
   rw [if_pos rfl, if_pos (by rw [h.len]; exact hw)]
   simp
  ·rw [if_neg e, ← List.getD_eq_getElem?_getD, h.st w hw]
   simp [Ne.symm e]
 ·exact List.nodup_append.2 ⟨h.nd, by simp, fun a ha b hb => by simp at hb; subst hb; exact fun e => hno (e ▸ ha)⟩
 ·rcases List.mem_append.1 hw with h1 | h1
  ·exact h.lt w h1
  ·simp at h1; omega
 ·rcases List.mem_append.1 hw with h1 | h1
  ·exact h.snd w h1
  ·simp at h1; subst h1; exact hs
 ·rcases List.mem_or_eq_of_mem_set hx with h1 | h1
  ·exact h.bd x h1
  ·omega
theorem Fw.mem (h : Fw E n F rd seen out) {u : Nat} (hu : u < n) (hs : seen.getD u 0 = rd) : u ∈ out := (h.st u hu).1 hs
theorem nodup_le : ∀ (n : Nat) (l : List Nat), l.Nodup → (∀ u ∈ l, u < n) → l.length ≤ n := by
 intro n
 induction n with
 | zero => intro l _ h; cases l with
  | nil => simp
  | cons a r => have := h a (by simp); omega
 | succ n ih =>
  intro l hn hl
  have h1 : (l.erase n).length ≤ n := ih _ (hn.erase n) fun u hu => by
   have h2 := (List.Nodup.mem_erase_iff hn).1 hu
   have := hl u h2.2
   omega
  have := List.length_erase (a := n) (l := l)
  split at this <;> omega
theorem Fw.le (h : Fw E n F rd seen out) : out.length ≤ n := nodup_le n out h.nd h.lt
/-- all that is reached is there -/
theorem Fw.done (h : Fw E n F rd seen out) (hF : ∀ v ∈ F, v ∈ out) (hc : ∀ u ∈ out, ∀ w ∈ E u, w ∈ out) (u : Nat) : u ∈ out ↔ ∃ v ∈ F, Rc E v u := by
 refine ⟨h.snd u, fun ⟨v, hv, hr⟩ => ?_⟩
 induction hr with
 | refl => exact hF v hv
 | tail _ he ih => exact hc _ (ih ⟨v, hv, ‹_›⟩) _ he
/-- the states of a set, in order -/
def ordN (n : Nat) (p : Nat → Bool) : List Nat := (List.range n).filter p
theorem ordN_sorted (n : Nat) (p : Nat → Bool) : (ordN n p).Pairwise (· < ·) := List.Pairwise.filter _ List.pairwise_lt_range
theorem mem_ordN {n : Nat} {p : Nat → Bool} {u : Nat} : u ∈ ordN n p ↔ u < n ∧ p u = true := by simp [ordN]
theorem lt_ext : ∀ {l m : List Nat}, l.Pairwise (· < ·) → m.Pairwise (· < ·) → (∀ a, a ∈ l ↔ a ∈ m) → l = m
 | [], [], _, _, _ => rfl
 | [], b :: m, _, _, h => by have := (h b).2 (by simp); simp at this
 | a :: l, [], _, _, h => by have := (h a).1 (by simp); simp at this
 | a :: l, b :: m, hl, hm, h => by
  have hl' := List.pairwise_cons.1 hl
  have hm' := List.pairwise_cons.1 hm
  have hab : a = b := by
   rcases List.mem_cons.1 ((h a).1 (by simp)) with e | e
   ·exact e
   ·rcases List.mem_cons.1 ((h b).2 (by simp)) with e' | e'
    ·exact e'.symm
    ·have h1 := hm'.1 a e
     have h2 := hl'.1 b e'
     omega
  subst hab
  congr 1
  refine lt_ext hl'.2 hm'.2 fun c => ⟨fun hc => ?_, fun hc => ?_⟩
  ·rcases List.mem_cons.1 ((h c).1 (List.mem_cons_of_mem _ hc)) with e | e
   ·subst e; have := hl'.1 c hc; omega
   ·exact e
  ·rcases List.mem_cons.1 ((h c).2 (List.mem_cons_of_mem _ hc)) with e | e
   ·subst e; have := hm'.1 c hc; omega
   ·exact e
/-- a sorted row of different numbers is the one in order -/
theorem sort_ord {l m : List Nat} {p : Nat → Bool} (hp : m.Perm l) (hs : m.Pairwise (· ≤ ·)) (hn : l.Nodup) (hl : ∀ u, u ∈ l ↔ u < n ∧ p u = true) : m = ordN n p := by
 have hm : m.Nodup := hp.symm.nodup hn
 refine lt_ext ?_ (ordN_sorted n p) fun a => by rw [hp.mem_iff, hl, mem_ordN]
 refine List.Pairwise.imp (fun h => by omega) (List.Pairwise.and hs hm)
theorem takeW_at {r : List (Int × Int)} {k : Nat} {a : Int × Int} (h0 : ∀ j b, j < k + 1 → r[j]? = some b → b.1 = 0) (hk : r[k]? = some a) : a ∈ r.takeWhile fun a => a.1 == 0 := by
 induction r generalizing k with
 | nil => simp at hk
 | cons b r ih =>
  have hb := h0 0 b (by omega) rfl
  rw [List.takeWhile_cons, if_pos (by simp [hb])]
  cases k with
  | zero => simp at hk; subst hk; simp
  | succ k => exact List.mem_cons_of_mem _ (ih (k := k) (fun j c hj hc => h0 (j + 1) c (by omega) (by simpa using hc)) (by simpa using hk))
theorem tauOf_at {r : List (Int × Int)} {k : Nat} {t : Bool} {a : Int × Int} (h0 : t = true → ∀ j b, j < k + 1 → r[j]? = some b → b.1 = 0) (hk : r[k]? = some a) : a ∈ tauOf t r := by
 unfold tauOf
 split
 ·rename_i ht
  exact takeW_at (h0 ht) hk
 ·exact List.mem_of_getElem? hk
/-- a row up to its k-th arc -/
theorem tauOf_stop {r : List (Int × Int)} {k : Nat} (h0 : ∀ j a, j < k → r[j]? = some a → a.1 = 0) (h1 : ∀ a, r[k]? = some a → a.1 ≠ 0) : tauOf true r = r.take k := by
 unfold tauOf
 rw [if_pos rfl]
 induction r generalizing k with
 | nil => simp
 | cons a r ih =>
  cases k with
  | zero =>
   have := h1 a rfl
   simp [List.takeWhile_cons, this]
  | succ k =>
   have := h0 0 a (by omega) rfl
   rw [List.takeWhile_cons, if_pos (by simp [this]), List.take_succ_cons, ih (k := k) (fun j b hj hb => h0 (j + 1) b (by omega) (by simpa using hb)) (fun b hb => h1 b (by simpa using hb))]
end Go.Proofs.Ythlckclbjknldaa
