/- Numbered classes: weak.numbered, ref25.Numbered, count, slices.Max. flow.Canonical. weak.Quotient. delay.Quotient at a valid system and its classes; delay.Compress. The reference's small functions of lists of numbers. The reference's Ints, Sets, LessInts. The reference's LessInts. law27.sane by the contracts, at its one system. The law DelayCompress. -/
import Derived.Test.YtahnebicgbjonaaZk
import Derived.Test.YtahnebicgbjonaaOd1
import Derived.Test.YtahnebicgbjonaaG11
import Derived.Test.YtahnebicgbjonaaSd2
import Derived.Test.YtahnebicgbjonaaMnil
import Derived.Test.YtahnebicgbjonaaMob
import Derived.Test.YtahnebicgbjonaaG67
import Derived.Test.YtahnebicgbjonaaG80
import Derived.Test.YtahnebicgbjonaaMG
namespace Go.Proofs.Ytahnebicgbjonaa
set_option linter.unusedVariables false
set_option linter.unusedSimpArgs false
open Go.RowKit
set_option maxRecDepth 100000
attribute [local go_sem] List.set_cons_zero List.set_cons_succ List.map_cons List.map_nil List.take_succ_cons List.take_zero List.drop_zero List.drop_succ_cons C.pl C.one List.all_cons List.all_nil Bool.and_true Nat.mul_one Int.toNat_natCast

theorem nm_step {C : List Int} {k : Nat} (h : k < C.length) {m : Int} : nmGo (C.drop k) m = ((!decide (C[k] < 0) && !decide (C[k] > m)) && nmGo (C.drop (k + 1)) (mx1 m C[k])) := by
 rw [List.drop_eq_getElem_cons h, nmGo]
theorem mx_step {C : List Int} {k : Nat} (h : k < C.length) : mxI 0 (C.take (k + 1)) = mx1 (mxI 0 (C.take k)) C[k] := by
 rw [List.take_succ_eq_append_getElem h, mxI_snoc]
theorem num_fc (C : List Int) (n : Nat) (hC : C.length ≤ 9223372036854775807) : FC Try.prog 32 [aInts C, .i n] [] (fun r o => o = [] ∧ r = .b (numB C n)) := by
 refine fc_intro Try.func32 rfl (by rw [Try.ntmps32]; simp) ?_
 rw [Try.ntmps32]
 simp only [enum, aInts]
 (refine wk1 @tInts_len ?_;(repeat clear hK K);repeat refine kq fun K hK=>?_)
 refine aw_loop (fun k : Nat => { tm := [(0, .a (.c (.t 1 (tInts C)))), (1, .i n), (5, .i (mxI 0 (C.take k))), (8, .a (.c (.t 1 (tInts C)))), (9, .i C.length), (10, .i k)], hp := [], n := 30, pin := 0 }) (fun k => k ≤ C.length ∧ nmGo C 0 = nmGo (C.drop k) (mxI 0 (C.take k)) ∧ 0 ≤ mxI 0 (C.take k) ∧ mxI 0 (C.take k) ≤ k) (fun k => C.length - k) 0 ?_ ?_ ?_
 ·exact ⟨by omega, by simp [mxI], by simp [mxI], by simp [mxI]⟩
 ·have e : mxI 0 (C.take 0) = 0 := by simp [mxI]
  rw [e]
  exact lmz
 ·rintro k ⟨hk, hg, hm0, hmk⟩ K hK
  by_cases hlt : k < C.length
  ·have d1 : decide ((k : Int) < (C.length : Int)) = true := by simpa using hlt
   have gc := tInts_get (List.getElem?_eq_getElem hlt)
   have hs := nm_step hlt (m := mxI 0 (C.take k))
   have hx := mx_step hlt
   generalize C[k] = c at *
   generalize mxI 0 (C.take k) = m at *
   rw [hs] at hg
   by_cases h1 : c < 0
   ·have d2 : decide (c < 0) = true := by simpa using h1
    (refine wk1 @d1 ?_;(repeat clear hK K);repeat refine kq fun K hK=>?_)
    refine cxz ?_
    (refine wk1 (an @tInts_len (an @gc @d2)) ?_;(repeat clear hK K);repeat refine kq fun K hK=>?_)
    refine cxz ?_
    (refine wk0 ?_;(repeat clear hK K);repeat refine kq fun K hK=>?_)
    refine rq0 Try.results32 ?_
    simp [numB, hg, h1]
   ·have d2 : decide (c < 0) = false := by simpa using h1
    by_cases h2 : c > m
    ·have d3 : decide (c > m) = true := by simpa using h2
     (refine wk1 @d1 ?_;(repeat clear hK K);repeat refine kq fun K hK=>?_)
     refine cxz ?_
     (refine wk1 (an @tInts_len (an @gc (an @d2 @d3))) ?_;(repeat clear hK K);repeat refine kq fun K hK=>?_)
     refine cxz ?_
     (refine wk0 ?_;(repeat clear hK K);repeat refine kq fun K hK=>?_)
     refine rq0 Try.results32 ?_
     simp [numB, hg, h2]
    ·have d3 : decide (c > m) = false := by simpa using h2
     (refine wk1 @d1 ?_;(repeat clear hK K);repeat refine kq fun K hK=>?_)
     refine cxz ?_
     (refine wk1 (an @tInts_len (an @gc (an @d2 @d3))) ?_;(repeat clear hK K);repeat refine kq fun K hK=>?_)
     refine cyz ?_
     (refine wk0 ?_;(repeat clear hK K);repeat refine kq fun K hK=>?_)
     refine rnz ?_
     have h3 : 0 ≤ mx1 m c ∧ mx1 m c ≤ m + 1 := by unfold mx1; split <;> omega
     refine hK _ (k + 1) ⟨by omega, by rw [hg, hx, d2, d3]; simp, by rw [hx]; omega, by rw [hx]; omega⟩ (by omega) ?_
     have e : (if c + 1 > m then c + 1 else m) = mxI 0 (C.take (k + 1)) := by rw [hx]; rfl
     rw [← e]
     exact lmz
  ·have d1 : decide ((k : Int) < (C.length : Int)) = false := by simpa using hlt
   have hd : nmGo C 0 = true := by rw [hg, List.drop_of_length_le (by omega)]; rfl
   (refine wk1 @d1 ?_;(repeat clear hK K);repeat refine kq fun K hK=>?_)
   refine cyz ?_
   (refine ekz ?_;repeat clear hK K)
   (refine wk1 @tInts_len ?_;(repeat clear hK K);repeat refine kq fun K hK=>?_)
   refine rq0 Try.results32 ?_
   have e : ((C.length : Int) == (n : Int)) = decide (C.length = n) := by rw [Bool.eq_iff_iff, beq_iff_eq, decide_eq_true_iff]; omega
   rw [numB, hd, Bool.true_and, e]
theorem max_fc (C : List Int) (h1 : 0 < C.length) (hC : C.length ≤ 140737488355328) : FC Try.prog 33 [aInts C] [] (fun r o => o = [] ∧ r = .i (maxL C[0] C)) := by
 refine fc_intro Try.func33 rfl (by rw [Try.ntmps33]; simp) ?_
 rw [Try.ntmps33]
 simp only [enum, aInts]
 have d0 : decide ((C.length : Int) < 1) = false := by simp; omega
 have g0 : (tInts C)[0]? = some (.v (.int .i64 C[0])) := tInts_get (List.getElem?_eq_getElem h1)
 (refine wk1 (an @tInts_len @d0) ?_;(repeat clear hK K);repeat refine kq fun K hK=>?_)
 refine cyz ?_
 (refine wk1 (an @tInts_len (an @g0 @Int.toNat_zero)) ?_;(repeat clear hK K);repeat refine kq fun K hK=>?_)
 refine aw_loop (fun k : Nat => { tm := [(0, .a (.c (.t 1 (tInts C)))), (3, .i (maxL C[0] (C.take k))), (4, .i k)], hp := [], n := 25, pin := 0 }) (fun k => 1 ≤ k ∧ k ≤ C.length) (fun k => C.length - k) 1 ?_ ?_ ?_
 ·omega
 ·have e : C.take 1 = [C[0]] := by rw [List.take_succ_eq_append_getElem h1]; rfl
  have e2 : maxL C[0] [C[0]] = C[0] := by simp [maxL]
  (refine le_tm ?_; simp only [LeTm, go_sem, e, e2]; try simp)
 ·rintro k ⟨hk1, hk⟩ K hK
  by_cases hlt : k < C.length
  ·have d1 : decide ((k : Int) < (C.length : Int)) = true := by simpa using hlt
   have g1 := tInts_get (List.getElem?_eq_getElem hlt)
   (refine wk1 (an @tInts_len @d1) ?_;(repeat clear hK K);repeat refine kq fun K hK=>?_)
   refine cxz ?_
   (refine wk1 (an @tInts_len @g1) ?_;(repeat clear hK K);repeat refine kq fun K hK=>?_)
   refine rnz ?_
   refine hK _ (k + 1) ⟨by omega, by omega⟩ (by omega) ?_
   have e := List.take_succ_eq_append_getElem hlt
   (refine le_tm ?_; simp only [LeTm, go_sem, e, maxL_snoc]; try simp)
  ·have d1 : decide ((k : Int) < (C.length : Int)) = false := by simpa using hlt
   have he : C.take k = C := List.take_of_length_le (by omega)
   rw [he]
   (refine wk1 (an @tInts_len @d1) ?_;(repeat clear hK K);repeat refine kq fun K hK=>?_)
   refine cyz ?_
   (refine ekz ?_;repeat clear hK K)
   (refine wk0 ?_;(repeat clear hK K);repeat refine kq fun K hK=>?_)
   exact rqc0 Try.results33
theorem canGo_pre (R : List (List Ar)) : ∀ (f i : Nat) (num old : List Int) (out : List (List Ar)), ∃ l, (canGo R f i num old out).1 = out ++ l := by
 intro f
 induction f with
 | zero => intro i num old out; exact ⟨[], by simp [canGo]⟩
 | succ f ih =>
  intro i num old out
  unfold canGo
  split
  ·exact ⟨[], by simp⟩
  ·obtain ⟨l, hl⟩ := ih (i + 1) (rowGo (rowOf (R.getD (Int.toNat ‹_›) [])) num old []).1 (rowGo (rowOf (R.getD (Int.toNat ‹_›) [])) num old []).2.1 (out ++ [(rowGo (rowOf (R.getD (Int.toNat ‹_›) [])) num old []).2.2])
   exact ⟨_ :: l, by rw [hl, List.append_assoc]; rfl⟩
theorem totA_app (x y : List (List Ar)) : totA (x ++ y) = totA x + totA y := by simp [totA]
theorem totA_one (r : List Ar) : totA [r] = r.length := by simp [totA]
def fcR (q : List (List Ar)) (r : AV) (o : List Ob) : Prop :=
 if totA q ≤ 262144 then o = [.r ⟨27, 1, false, [.t 1 (tRows q)]⟩] ∧ r = .tup [.g [.t 1 (tRows q)], .c (.v (.bool true))]
 else o = [.r ⟨27, 1, false, [.v (.slice none 0 0)]⟩] ∧ r = .tup [.g [.v (.slice none 0 0)], .c (.v (.bool false))]
set_option maxHeartbeats 8000000 in
theorem fcanon_fc (R : List (List Ar)) (h1 : 1 ≤ R.length) (hbd : ∀ r ∈ R, ∀ a ∈ r, 0 ≤ a.2 ∧ a.2 < (R.length : Int)) (hn : R.length ≤ 1000000) (hr : ∀ r ∈ R, r.length ≤ 1000000) : FC Try.prog 34 [.a (.c (.t 1 (tRows R)))] [] (fcR (canonR R).1) := by
 refine fc_intro Try.func34 rfl (by rw [Try.ntmps34]; simp) ?_
 rw [Try.ntmps34]
 simp only [enum]
 (refine wk1 @tRows_len ?_;(repeat clear hK K);repeat refine kq fun K hK=>?_)
 (refine lst_cons rfl ?_; intro K1 hK1; refine stp_callσ (ids := []) [1] (repeat_fc (-1) R.length h1 hn) rfl rfl (by simp only [go_sem]) (by first | assumption | kernel_rfl) rfl rfl (by (simp only [List.map_append, List.append_nil, go_sem]) <;> rfl) (by (simp only [pkh, rInts, cInts, go_sem]) <;> rfl) ?_ ?_)
 ·rintro _ _ ⟨rfl, rfl⟩; rfl
 rintro _ _ ⟨rfl, rfl⟩
 (simp only [aInts, aSets, rInts, cInts_up, List.append_nil, List.nil_append, List.length_map, go_sem]; refine hK1 _ ?_; clear hK1 K1)
 have g0 : 0 < (List.replicate R.length (-1 : Int)).length := by simp; omega
 (refine wks1 (an @cInts_len (an @List.length_replicate.{0} @cInts_set)) ?_;(repeat clear hK K);repeat refine kq fun K hK=>?_)
 refine aw_le (le_new 38 1) ?_
 simp only [List.cons_append, List.nil_append]
 refine aw_le (le_cell 4 0 5 (by decide) rfl rfl rfl) ?_
 simp only [List.set_cons_zero, List.set_cons_succ]
 refine aw_le (le_pick [0, 2, 3, 4, 5] rfl rfl) ?_
 (try simp only [List.set_nil, List.take_nil, List.take_zero, List.map_append, go_sem])
 (try simp only [cInts_ren])
 refine aw_loop (fun x : Nat × List Int × List Int × List (List Ar) => { tm := [(0, .a (.c (.t 1 (tRows R)))), (2, .a (.c (.p 0 0))), (4, .a (.c (.s 1 R.length))), (5, .a (.c (.s 2 x.2.2.1.length))), (6, .i (totA x.2.2.2)), (7, .a (.c (.p 3 0))), (8, .i x.1)], hp := [.r ⟨27, 1, false, [.v (.slice none 0 0)]⟩, .r ⟨3, 1, true, cInts x.2.1⟩, .r ⟨3, 1, true, cInts x.2.2.1⟩, .r ⟨27, 1, false, [.s 4 x.1]⟩, .r ⟨38, 1, true, cRows x.2.2.2⟩], n := 87, pin := 0 }) (fun x => NumOk R.length x.2.1 x.2.2.1 ∧ NumInj x.2.1 x.2.2.1 ∧ canGo R (R.length - x.1) x.1 x.2.1 x.2.2.1 x.2.2.2 = canonR R ∧ x.1 ≤ x.2.2.1.length ∧ x.2.2.2.length = x.1 ∧ totA x.2.2.2 ≤ 262144) (fun x => R.length - x.1) (0, (List.replicate R.length (-1)).set 0 0, [0], []) ?_ ?_ ?_
 ·exact ⟨NumOk.start h1, NumInj.start h1, rfl, by simp, rfl, by simp [totA]⟩
 ·simp only [totA, List.map_nil, List.sum_nil]
  exact lmz
 ·rintro ⟨i, num, old, out⟩ ⟨hN, hI, hC, hio, hoi, hto⟩ K hK
  simp only at hN hI hC hio hoi hto
  have hlen := hN.len
  have hle := hN.le
  by_cases hlt : i < old.length
  ·have d1 : decide ((i : Int) < (old.length : Int)) = true := by simpa using hlt
   have hs0 := hN.st _ (List.getElem_mem hlt)
   obtain ⟨sn, hsn⟩ : ∃ sn : Nat, old[i] = sn := ⟨old[i].toNat, by omega⟩
   have hsl : sn < R.length := by omega
   have go : (cInts old)[i]? = some (.v (.int .i64 sn)) := by rw [← hsn]; exact cInts_get (List.getElem?_eq_getElem hlt)
   have hgR := List.getElem?_eq_getElem hsl
   have hrl := hr _ (List.getElem_mem hsl)
   have hst := canGo_step (rows := R) (n := R.length) (i := i) (num := num) (old := old) (out := out) (s := (sn : Int)) (r := R[sn]) (by omega) (by rw [List.getElem?_eq_getElem hlt, hsn]) (by simp [hgR]) rfl
   generalize hrr : R[sn] = r at *
   have hcl := clone_arcs (tArcs r) (by rw [tArcs_len]; omega)
   rw [tArcs_of, tArcs_len, half2] at hcl
   (refine wk1 (an @d1 @cInts_len) ?_;(repeat clear hK K);repeat refine kq fun K hK=>?_)
   refine cxz ?_
   (refine wk1 (an @tRows_len (an (tRows_get hgR) (an @cInts_len @go))) ?_;(repeat clear hK K);repeat refine kq fun K hK=>?_)
   (refine ckz hcl ?_; intro K1 hK1)
   rintro _ _ ⟨rfl, rfl⟩
   (simp only [aInts, aSets, cArcs_up3, List.append_nil, List.nil_append, List.length_map, go_sem]; refine hK1 _ ?_; clear hK1 K1)
   (refine wk0 ?_;(repeat clear hK K);repeat refine kq fun K hK=>?_)
   (refine lst_cons rfl ?_; intro K1 hK1; refine stp_callσ (ids := []) [5] (sortA_fc 47 (by kernel_rfl) fcmp_fc r (by omega)) rfl rfl (by simp only [go_sem]) (by first | assumption | kernel_rfl) rfl rfl (by (simp only [List.map_append, List.append_nil, go_sem]) <;> rfl) (by (simp only [pkh, cArcs_ren3, go_sem]) <;> rfl) ?_ ?_)
   ·rintro _ _ ⟨rfl, L', _, _, rfl⟩; rfl
   rintro _ _ ⟨rfl, L', hperm, hsort, rfl⟩
   (simp only [aInts, aSets, cArcs_up3, List.append_nil, List.nil_append, List.length_map, go_sem]; refine hK1 _ ?_; clear hK1 K1)
   have hLl := hperm.length_eq
   have hq : cmpA L' = rowOf r := by rw [cmpA_comp]; exact comp_sort hperm hsort
   rw [← hLl]
   (refine wk0 ?_;(repeat clear hK K);repeat refine kq fun K hK=>?_)
   (refine lst_cons rfl ?_; intro K1 hK1; refine stp_callσ (ids := []) [5] (compact_arcs L' (by omega)) rfl rfl (by simp only [go_sem]) (by first | assumption | kernel_rfl) rfl rfl (by (simp only [List.map_append, List.append_nil, go_sem]) <;> rfl) (by (simp only [pkh, cArcs_ren3, go_sem]) <;> rfl) ?_ ?_)
   ·rintro _ _ ⟨rfl, rest, us, _, _, rfl⟩; rfl
   rintro _ _ ⟨rfl, rest, us, hrest, hr0, rfl⟩
   (simp only [aInts, aSets, cArcs_up3, List.append_nil, List.nil_append, List.length_map, go_sem]; refine hK1 _ ?_; clear hK1 K1)
   (refine wk0 ?_;(repeat clear hK K);repeat refine kq fun K hK=>?_)
   obtain ⟨q, hqd⟩ : ∃ q, q = rowOf r := ⟨_, rfl⟩
   rw [← hqd] at hq hst
   have hqs : SortA q := by rw [hqd]; exact rowOf_sorted r
   have hql : q.length ≤ 1000000 := by rw [hqd]; exact Nat.le_trans (len_rowOf r) (by omega)
   have hqb : ∀ a ∈ q, 0 ≤ a.2 ∧ a.2 < (R.length : Int) := fun a ha => by
    rw [hqd, mem_rowOf] at ha
    exact hbd r (by rw [← hrr]; exact List.getElem_mem hsl) a ha
   rw [hq]
   refine aw_le (le_take 5 (q.length * 2) rfl ?_) ?_
   ·intro _ h
    rw [cut_arcs _ _ _ (cArcs_up3 _ _)] at h
    have hq0 : q = [] := by
     have := congrArg List.length h
     rw [cArcs_len] at this
     exact List.length_eq_zero_iff.1 (by simp at this; omega)
    have hL0 : L' = [] := by
     cases L' with
     | nil => rfl
     | cons x xs =>
      have : cmpA (x :: xs) = [] := by rw [hq, hq0]
      simp [cmpA] at this
    rw [hr0 hL0, hq0]; rfl
   simp only [cut_arcs _ _ _ (cArcs_up3 _ _), go_sem]
   refine aw_loop (fun x : Nat × List Int × List Int × List Ar => { tm := [(0, .a (.c (.t 1 (tRows R)))), (2, .a (.c (.p 0 0))), (4, .a (.c (.s 1 R.length))), (5, .a (.c (.s 2 x.2.2.1.length))), (6, .i (totA out)), (7, .a (.c (.p 3 0))), (8, .i i), (9, .a (.c (.s 5 q.length))), (37, .a (.c (.s 5 q.length))), (38, .i q.length), (39, .i x.1)], hp := [.r ⟨27, 1, false, [.v (.slice none 0 0)]⟩, .r ⟨3, 1, true, cInts x.2.1⟩, .r ⟨3, 1, true, cInts x.2.2.1⟩, .r ⟨27, 1, false, [.s 4 i]⟩, .r ⟨38, 1, true, cRows out⟩, .r ⟨42, 2, true, cArcs x.2.2.2⟩], n := 87, pin := 0 }) (fun x => x.1 ≤ q.length ∧ x.2.2.2.length = q.length ∧ NumOk R.length x.2.1 x.2.2.1 ∧ old.length ≤ x.2.2.1.length ∧ NL (numL q num old) x.2.2.2 q x.1 x.2.1 x.2.2.1) (fun x => q.length - x.1) (0, num, old, q) ?_ ?_ ?_
   ·exact ⟨by simp, rfl, hN, Nat.le_refl _, NL.start q num old⟩
   ·exact lmz
   ·rintro ⟨k, num1, old1, ya⟩ ⟨hk, hyl, hN1, hol, hNL⟩ K hK
    simp only at hk hyl hN1 hol hNL
    have hlen1 := hN1.len
    have hle1 := hN1.le
    by_cases hlt2 : k < q.length
    ·have d2 : decide ((k : Int) < (q.length : Int)) = true := by simpa using hlt2
     have hky : k < ya.length := by omega
     have hyq : ya[k] = q[k] := by
      have := congrArg (fun l => l[0]?) hNL.2.2.2
      simp only [List.getElem?_drop, Nat.add_zero] at this
      rw [List.getElem?_eq_getElem hky, List.getElem?_eq_getElem hlt2] at this
      exact Option.some.inj this
     have hyb := hqb _ (List.getElem_mem hlt2)
     rw [← hyq] at hyb
     obtain ⟨e, tn, hya⟩ : ∃ (e : Int) (tn : Nat), ya[k] = (e, (tn : Int)) := ⟨ya[k].1, ya[k].2.toNat, by
      have : (ya[k].2.toNat : Int) = ya[k].2 := by omega
      rw [this]⟩
     have hyk : ya[k]? = some (e, (tn : Int)) := by rw [List.getElem?_eq_getElem hky, hya]
     have htl : tn < R.length := by rw [hya] at hyb; have := hyb.2; simp only at this; omega
     have hat := cArcs_at hky
     rw [hya] at hat
     have gn : (cInts num1)[tn]? = some (.v (.int .i64 num1[tn])) := cInts_get (List.getElem?_eq_getElem (by omega))
     have gn2 : num1[tn]? = some num1[tn] := List.getElem?_eq_getElem (by omega)
     (refine wk1 @d2 ?_;(repeat clear hK K);repeat refine kq fun K hK=>?_)
     refine cxz ?_
     by_cases hx : num1[tn] < 0
     ·have d3 : decide (num1[tn] < 0) = true := by simpa using hx
      have gs : (cInts (num1.set tn (old1.length : Int)))[tn]? = some (.v (.int .i64 (old1.length : Int))) := cInts_get (List.getElem?_set_self (by omega))
      have op := old_push old1 (tn : Int)
      have cs := cArcs_set1 hyk (old1.length : Int)
      (refine wks1 (an @hat (an @cArcs_len (an @hyl (an @gn (an @d3 (an @cInts_len @hlen1)))))) ?_;(repeat clear hK K);repeat refine kq fun K hK=>?_)
      refine cxz ?_
      (refine wks1 (an @cInts_len (an @hlen1 (an @cInts_set (an @op (an @gs (an @cs (an @cArcs_len (an @hyl @List.length_set.{0})))))))) ?_;(repeat clear hK K);repeat refine kq fun K hK=>?_)
      refine rnz ?_
      have hone : numOne num1 old1 (tn : Int) = (num1.set tn (old1.length : Int), old1 ++ [(tn : Int)]) := by
       simp only [numOne, Int.toNat_natCast, List.getD, gn2, Option.getD_some, if_pos hx]
      have hN2 := hN1.one (t := (tn : Int)) (by omega) (by omega)
      rw [hone] at hN2
      refine hK _ (k + 1, num1.set tn (old1.length : Int), old1 ++ [(tn : Int)], ya.set k (e, (old1.length : Int))) ⟨hlt2, by simp [hyl], hN2, by simp; omega, hNL.neg hyk gn2 hx rfl⟩ (by simp only; omega) ?_
      refine Le.trans (le_pick [0, 1, 8, 3, 4, 5] rfl rfl) ?_
      (try simp only [List.set_nil, List.take_nil, List.take_zero, List.map_append, go_sem])
      (try simp only [cInts_ren, cArcs_ren3, cRows_ren])
      simp only [List.length_append, List.length_cons, List.length_nil]
      exact lmz
     ·have d3 : decide (num1[tn] < 0) = false := by simpa using hx
      have cs := cArcs_set1 hyk num1[tn]
      (refine wks1 (an @hat (an @cArcs_len (an @hyl (an @gn (an @d3 (an @cInts_len @hlen1)))))) ?_;(repeat clear hK K);repeat refine kq fun K hK=>?_)
      refine cyz ?_
      (refine wks1 (an @gn (an @cs (an @cArcs_len (an @hyl (an @cInts_len @hlen1))))) ?_;(repeat clear hK K);repeat refine kq fun K hK=>?_)
      refine rnz ?_
      refine hK _ (k + 1, num1, old1, ya.set k (e, num1[tn])) ⟨hlt2, by simp [hyl], hN1, hol, hNL.pos hyk gn2 hx⟩ (by simp only; omega) ?_
      refine Le.trans (le_pick [0, 1, 2, 3, 4, 5] rfl rfl) ?_
      (try simp only [List.set_nil, List.take_nil, List.take_zero, List.map_append, go_sem])
      (try simp only [cInts_ren, cArcs_ren3, cRows_ren])
      exact lmz
    ·have d2 : decide ((k : Int) < (q.length : Int)) = false := by simpa using hlt2
     obtain ⟨f1, f2, f3⟩ := hNL.fin (by omega) hyl
     have hnd : ya.Nodup := by rw [f1]; exact numL_nodup q hqs (fun a ha => by rw [hlen]; exact hqb a ha) hI
     have hI2 : NumInj num1 old1 := by rw [f2, f3]; exact numL_inj q (fun a ha => by rw [hlen]; exact hqb a ha) hI
     (refine wk1 @d2 ?_;(repeat clear hK K);repeat refine kq fun K hK=>?_)
     refine cyz ?_
     (refine ekz ?_;repeat clear hK K)
     rw [← hyl]
     (refine wk0 ?_;(repeat clear hK K);repeat refine kq fun K hK=>?_)
     (refine lst_cons rfl ?_; intro K1 hK1; refine stp_callσ (ids := []) [5] (sortA_fc 47 (by kernel_rfl) fcmp_fc ya (by omega)) rfl rfl (by simp only [go_sem]) (by first | assumption | kernel_rfl) rfl rfl (by (simp only [List.map_append, List.append_nil, go_sem]) <;> rfl) (by (simp only [pkh, cArcs_ren3, go_sem]) <;> rfl) ?_ ?_)
     ·rintro _ _ ⟨rfl, L2, _, _, rfl⟩; rfl
     rintro _ _ ⟨rfl, L2, hp2, hs2, rfl⟩
     (simp only [aInts, aSets, cArcs_up3, List.append_nil, List.nil_append, List.length_map, go_sem]; refine hK1 _ ?_; clear hK1 K1)
     have hL2 : L2 = rowOf ya := sort_nodup hnd hp2 hs2
     have hL2l := hp2.length_eq
     rw [← hL2l]
     (refine lst_le (le_frz (r := ⟨42, 2, true, cArcs L2⟩) 5 (tArcs L2) rfl (fz_ca _) (show 0 < (2 : Nat) by omega)) ?_; simp only [ST.frz, A0.frz, AV.frz, C.frz, Nat.le_refl, List.set_cons_zero, List.set_cons_succ, go_sem, tArcs_len, half2, tArcs_take, List.take_length])
     have htt : totA (out ++ [L2]) = totA out + L2.length := by rw [totA_app, totA_one]
     have hCn : canGo R (R.length - (i + 1)) (i + 1) num1 old1 (out ++ [L2]) = canonR R := by
      rw [← hC, hst, rowGo_numL, f2, f3, hL2, f1]
      rfl
     by_cases htb : totA (out ++ [L2]) > 262144
     ·have d5 : decide ((totA out : Int) + (L2.length : Int) > 262144) = true := decide_eq_true (by omega)
      (refine wk1 (an @tArcs_len (an @half2 @d5)) ?_;(repeat clear hK K);repeat refine kq fun K hK=>?_)
      refine cxz ?_
      (refine wks0 ?_;(repeat clear hK K);repeat refine kq fun K hK=>?_)
      refine rp0 [0] Try.results34 ?_
      obtain ⟨l, hl⟩ := canGo_pre R (R.length - (i + 1)) (i + 1) num1 old1 (out ++ [L2])
      rw [hCn] at hl
      unfold fcR
      rw [if_neg (by rw [hl, totA_app]; omega)]
      exact ⟨rfl, rfl⟩
     ·have d5 : decide ((totA out : Int) + (L2.length : Int) > 262144) = false := decide_eq_false (by omega)
      have crp := cRows_push out L2 hoi
      have ett : (totA out : Int) + (L2.length : Int) = (totA (out ++ [L2]) : Int) := by omega
      (refine wk1 (an @tArcs_len (an @half2 @d5)) ?_;(repeat clear hK K);repeat refine kq fun K hK=>?_)
      refine cyz ?_
      (refine wks1 (an @crp (an @cRows_len @hoi)) ?_;(repeat clear hK K);repeat refine kq fun K hK=>?_)
      refine rnz ?_
      refine hK _ (i + 1, num1, old1, out ++ [L2]) ⟨hN1, hI2, hCn, by simp only; omega, by simp [hoi], by simp only; omega⟩ (by simp only; omega) ?_
      refine Le.trans (le_pick [0, 1, 2, 3, 7] rfl rfl) ?_
      (try simp only [List.set_nil, List.take_nil, List.take_zero, List.map_append, go_sem])
      (try simp only [cInts_ren, cRows_ren, ett])
      exact lmz
  ·have d1 : decide ((i : Int) < (old.length : Int)) = false := by simpa using hlt
   have hfin : canonR R = (out, old) := by rw [← hC]; exact canGo_stop (by omega)
   (refine wk1 (an @d1 @cInts_len) ?_;(repeat clear hK K);repeat refine kq fun K hK=>?_)
   refine cyz ?_
   (refine ekz ?_;repeat clear hK K)
   refine aw_le (le_sink (r := ⟨38, 1, true, cRows out⟩) (ri := ⟨27, 1, false, [.s 4 i]⟩) (ts := tRows out) 3 0 4 i (by decide) rfl rfl rfl rfl (show 0 < 1 by omega) (by simp only [cRows_len, hoi]; omega) (fz_cr _)) ?_
   simp only [go_sem]
   refine aw_le (le_ot 3 rfl) ?_
   simp only [otC, go_sem]
   (refine wks0 ?_;(repeat clear hK K);repeat refine kq fun K hK=>?_)
   refine rp0 [0] Try.results34 ?_
   rw [hfin]
   unfold fcR
   rw [if_pos hto]
   exact ⟨rfl, rfl⟩
def quO (x : List (List Ar)) (r : AV) (o : List Ob) : Prop :=
 if totA x ≤ 262144 then o = [.r ⟨27, 1, false, [.t 1 (tRows x)]⟩] ∧ r = .tup [.g [.t 1 (tRows x)], .c (.v (.int .i64 0))]
 else o = [.r ⟨27, 1, false, [.v (.slice none 0 0)]⟩] ∧ r = .tup [.g [.v (.slice none 0 0)], .c (.v (.int .i64 10))]
set_option maxHeartbeats 8000000 in
theorem quo_fc (R : List (List Ar)) (cl : List Int) (hv : valB R = true) (hC : numB cl R.length = true) (hn : R.length ≤ 1000000) (hr : ∀ r ∈ R, r.length ≤ 1000000) : FC Try.prog 22 [aLts R, aInts cl] [] (fun r o => ∃ B, DvL R B ∧ quO (canonR (qR R cl B)).1 r o) := by
 refine fc_intro Try.func22 rfl (by rw [Try.ntmps22]; simp) ?_
 rw [Try.ntmps22]
 simp only [enum, aLts, aInts]
 have hlo : looB R = true := decide_eq_true (of_decide_eq_true hv).1
 have h1 : 1 ≤ R.length := (of_decide_eq_true hlo).1
 have hR16 : R.length ≤ 16384 := (of_decide_eq_true hlo).2.1
 have htA : totA R ≤ 262144 := (of_decide_eq_true hlo).2.2.1
 have hbd := (of_decide_eq_true hlo).2.2.2
 obtain ⟨hCl, hmn, hcl, hmx⟩ := num_ok hC
 have hcl1 : 0 < cl.length := by omega
 have hmax : maxL cl[0] cl + 1 = (mxN cl : Int) := by
  have h0 : 0 ≤ cl[0] := by
   have := (hcl 0 (by omega)).2
   rw [List.getElem?_eq_getElem hcl1] at this
   injection this with this
   omega
  rw [← hmx]
  cases cl with
  | nil => simp at hcl1
  | cons x l => exact (mxI_cons l h0).symm
 have hm1 : 1 ≤ mxN cl := by have := (hcl 0 (by omega)).1; omega
 (refine wk0 ?_;(repeat clear hK K);repeat refine kq fun K hK=>?_)
 (refine ckz (valid_fc R (by omega) (fun r h => by have := hr r h; omega)) ?_; intro K1 hK1)
 rintro _ _ ⟨rfl, rfl⟩
 (refine bkz ?_; clear hK1 K1)
 (refine wk1 (an @hv (an @Bool.not_true @tRows_len)) ?_;(repeat clear hK K);repeat refine kq fun K hK=>?_)
 (refine lst_goU rfl rfl (by simp only [go_sem] <;> rfl) ?_; intro K1 hK1; refine (stp_call0 (ids := []) (num_fc cl R.length (by omega)) rfl rfl (by simp only [go_sem]) (by kernel_rfl) (by (simp only [List.append_nil, go_sem]) <;> rfl) ?_).stp)
 rintro _ _ ⟨rfl, rfl⟩
 (refine bkz ?_; clear hK1 K1)
 (refine wk1 (an @hC @Bool.not_true) ?_;(repeat clear hK K);repeat refine kq fun K hK=>?_)
 refine cyz ?_
 (refine wk0 ?_;(repeat clear hK K);repeat refine kq fun K hK=>?_)
 (refine ckz (dvgT_fc R hv hn hr) ?_; intro K1 hK1)
 rintro _ _ ⟨B, hB, rfl, rfl⟩
 (refine bkz ?_; clear hK1 K1)
 have hBl := hB.1
 have hB2 : ∀ s, s < R.length → B[s]? = some (B.getD s false) := fun s hs => by rw [List.getD_eq_getElem?_getD, List.getElem?_eq_getElem (by omega)]; rfl
 have hend : ∀ r o, quO (canonR (qR R cl B)).1 r o → ∃ B, DvL R B ∧ quO (canonR (qR R cl B)).1 r o := fun r o h => ⟨B, hB, h⟩
 (refine wk0 ?_;(repeat clear hK K);repeat refine kq fun K hK=>?_)
 (refine ckz (max_fc cl hcl1 (by omega)) ?_; intro K1 hK1)
 rintro _ _ ⟨rfl, rfl⟩
 (refine bkz ?_; clear hK1 K1)
 have hqR := qR_bd (B := B) hlo hC
 have hqe : qR R cl B = qlOut (lcL (clf cl) (mxN cl) B R.length) (qpOut (clf cl) (mxN cl) R R.length) (mxN cl) := rfl
 rw [hqe] at hqR
 generalize maxL cl[0] cl = mx at *
 generalize hm : mxN cl = m at *
 generalize hf : clf cl = f at *
 (refine wk1 (an @hmax @tRows_len) ?_;(repeat clear hK K);repeat refine kq fun K hK=>?_)
 have e1 : List.replicate m (C.o (2, 42) []) = cRowsO (qpOut f m R 0) := by simp [cRowsO, qpOut, tArcs]
 have e2 : List.replicate m (C.v (.bool false)) = cBs (lcL f m B 0) := by
  have : lcL f m B 0 = List.replicate m false := List.ext_getElem (by simp [lcL]) fun i h1 h2 => by simp [lcL]
  rw [this]; simp [cBs]
 rw [e1, e2]
 have hfm : ∀ v, v < R.length → f v < m := fun v hv => (hcl v hv).1
 refine aw_loop (fun s : Nat => { tm := [(1, .a (.c (.t 1 (tInts cl)))), (2, .a (.c (.p 0 0))), (4, .a (.c (.p 1 0))), (6, .a (.c (.t 1 (tBs B)))), (7, .a (.c (.s 2 m))), (8, .a (.c (.s 3 m))), (40, .a (.c (.t 1 (tRows R)))), (41, .i R.length), (42, .i s)], hp := [.r ⟨27, 1, false, [.t 1 (tRows R)]⟩, .r ⟨27, 1, false, [.v (.slice none 0 0)]⟩, .r ⟨38, 1, true, cRowsO (qpOut f m R s)⟩, .r ⟨4, 1, true, cBs (lcL f m B s)⟩], n := 130, pin := 0 }) (fun s => s ≤ R.length) (fun s => R.length - s) 0 ?_ ?_ ?_
 ·omega
 ·exact lmz
 ·rintro s hs K hK
  by_cases hlt : s < R.length
  ·have d1 : decide ((s : Int) < (R.length : Int)) = true := by simpa using hlt
   have hgR := List.getElem?_eq_getElem hlt
   have hrl := hr _ (List.getElem_mem hlt)
   obtain ⟨hfs, hgs⟩ := hcl s hlt
   have gC := tInts_get hgs
   have gB := tBs_get (hB2 s hlt)
   have hlset := lcL_set (B := B) hfs
   have hll := lcL_len f m B s
   have gL : (cBs (lcL f m B s))[f s]? = some (.v (.bool ((lcL f m B s).getD (f s) false))) := cBs_get (by rw [List.getD_eq_getElem?_getD, List.getElem?_eq_getElem (by omega)]; rfl)
   have htot := qpOut_tot f m R s hs
   have hto := totA_take hlt
   have htl3 := totA_le R (s + 1)
   have hbs := hbd _ (List.getElem_mem hlt)
   have htl : qpOut f m R (s + 1) = qpRow f (f s) (qpOut f m R s) R[s] := by
    rw [qpOut, List.getD_eq_getElem?_getD, hgR, Option.getD_some]
   generalize hrow : R[s] = row at *
   cases hlb : (lcL f m B s).getD (f s) false with
   | true =>
    rw [hlb] at gL hlset
    rw [Bool.true_or] at hlset
    (refine wk1 @d1 ?_;(repeat clear hK K);repeat refine kq fun K hK=>?_)
    refine cxz ?_
    (refine wks1 (an @tRows_len (an (tRows_get hgR) (an @tInts_len (an @hCl (an @gC (an @cBs_len (an @hll (an @gL (an @tBs_len (an @hBl (an @gB (an @cBs_set (an @hlset (an @tArcs_len @half2)))))))))))))) ?_;(repeat clear hK K);repeat refine kq fun K hK=>?_)
    refine aw_loop (fun k : Nat => { tm := [(1, .a (.c (.t 1 (tInts cl)))), (2, .a (.c (.p 0 0))), (4, .a (.c (.p 1 0))), (6, .a (.c (.t 1 (tBs B)))), (7, .a (.c (.s 2 m))), (8, .a (.c (.s 3 m))), (9, .i s), (11, .i (f s)), (40, .a (.c (.t 1 (tRows R)))), (41, .i R.length), (42, .i s), (64, .a (.c (.t 2 (tArcs row)))), (65, .i row.length), (66, .i k)], hp := [.r ⟨27, 1, false, [.t 1 (tRows R)]⟩, .r ⟨27, 1, false, [.v (.slice none 0 0)]⟩, .r ⟨38, 1, true, cRowsO (qpRow f (f s) (qpOut f m R s) (row.take k))⟩, .r ⟨4, 1, true, cBs (lcL f m B (s + 1))⟩], n := 130, pin := 0 }) (fun k => k ≤ row.length) (fun k => row.length - k) 0 ?_ ?_ ?_
    ·omega
    ·simp only [List.take_zero, qpRow, List.foldl_nil]
     exact lmz
    ·rintro k hk K hK
     by_cases hlt3 : k < row.length
     ·have d3 : decide ((k : Int) < (row.length : Int)) = true := by simpa using hlt3
      have hat := tArcs_at hlt3
      have hb := hbs _ (List.getElem_mem hlt3)
      have hsn := qpRow_snoc f (f s) (qpOut f m R s) (row.take k) row[k]
      rw [← List.take_succ_eq_append_getElem hlt3] at hsn
      generalize row[k] = a at *
      obtain ⟨e, t⟩ := a
      simp only at hat hb
      obtain ⟨_, _, ht0, ht1⟩ := hb
      obtain ⟨tn, rfl⟩ : ∃ tn : Nat, t = (tn : Int) := ⟨t.toNat, by omega⟩
      have htn : tn < R.length := by omega
      obtain ⟨hft, hgt⟩ := hcl tn htn
      have gT := tInts_get hgt
      have hol : (qpRow f (f s) (qpOut f m R s) (row.take k)).length = m := by rw [qpRow_len, qpOut_len]
      have hot := qpRow_tot f (f s) (row.take k) (qpOut f m R s)
      rw [List.length_take] at hot
      generalize qpRow f (f s) (qpOut f m R s) (row.take k) = o at *
      have hrw := totA_row o (f s)
      have hgo : o[f s]? = some (o.getD (f s) []) := by
       rw [List.getD_eq_getElem?_getD, List.getElem?_eq_getElem (by omega)]; rfl
      by_cases hq : e ≠ 0 ∨ f tn ≠ f s
      ·have hx : qp1 f (f s) (e, (tn : Int)) = some (e, (f tn : Int)) := by
        show (if e ≠ 0 ∨ f tn ≠ f s then some (e, (f tn : Int)) else none) = _
        rw [if_pos hq]
       have hA : pushO (qp1 f (f s) (e, (tn : Int))) (f s) o = o.set (f s) (o.getD (f s) [] ++ [(e, (f tn : Int))]) := by rw [hx]; rfl
       generalize o.getD (f s) [] = oc at *
       by_cases he : e = 0
       ·have d4 : (e != 0) = false := by simp [he]
        have d5 : ((f tn : Int) != (f s : Int)) = true := by
         have := hq.resolve_left (by simp [he])
         simp; omega
        (refine wk1 @d3 ?_;(repeat clear hK K);repeat refine kq fun K hK=>?_)
        refine cxz ?_
        (refine wks1 (an @hat (an @tArcs_len (an @half2 (an @d4 (an @d5 (an @tInts_len (an @hCl @gT))))))) ?_;(repeat clear hK K);repeat refine kq fun K hK=>?_)
        refine cxz ?_
        (refine wk0 ?_;(repeat clear hK K);repeat refine kq fun K hK=>?_)
        (refine aw_regionZ [] (.m 0 0 0 (.m 1 0 0 (.m 2 0 0 (.m 3 0 0 (.m 4 0 0 (.m 5 1 15 (.m 6 0 0 (.m 7 1 14 (.m 8 0 0 (.m 9 0 0 (.m 10 1 14 (.m 11 0 0 (.m 12 1 14 (.m 13 0 0 (.a 14 (.a 15 (.m 16 0 0 (.a 17 .e)))))))))))))))))) (by kernel_rfl) (by kernel_rfl) (by intro c st h; simp [ThenA, InBl, Ret] at h) ?_)
        (refine zk1 (an @cRowsO_len (an (cRowsO_get hgo) (an @hol (an @tInts_len (an @hCl @gT))))) ?_; repeat clear hK K)
        (refine z_2 rfl rfl ?_; intro K1 hK1; refine stpF_a rfl ?_; simp only [go_sem]; (first | refine hK1 _ ?_ | refine andk (hK1 _ ?_)); clear hK1 K1)
        (refine z_2y rfl rfl rfl ?_; intro K1 hK1; refine stpY_ap rfl rfl rfl rfl (by first | rfl | simp only [rowsB, List.getD_cons_zero, List.getD_cons_succ, hne, List.isEmpty_cons, Bool.not_false, Bool.true_and, Bool.and_true, Bool.and_self]) rfl ?_; simp only [go_sem, tArcs_c, tArcs_len, half2, cArcs_snoc, cRowsO_get hgo]; (first | refine hK1 _ ?_ | refine andk (hK1 _ ?_)); clear hK1 K1)
        (refine zk1 (an @cRowsO_len @hol) ?_; repeat clear hK K)
        (refine z_3 rfl rfl rfl rfl ?_; intro K1 hK1; refine stp_ev rfl ?_; simp only [go_sem, cRowsO_len, List.length_set, set_two2, hol]; (first | refine hK1 _ ?_ | refine andk (hK1 _ ?_)); clear hK1 K1)
        refine z_nil ⟨by simp, by simp, ?_⟩
        (try simp only [ThenA, InBl])
        refine hK _ ?_
        clear hK K
        have hj6 : ((cRowsO o).set (f s) (C.s 6 (oc.length + 1)))[f s]? = some (.s 6 (oc.length + 1)) := by rw [List.getElem?_set_self (by rw [cRowsO_len]; omega)]
        have hset6 : ((cRowsO o).set (f s) (C.s 6 (oc.length + 1))).set (f s) (.o (2, 42) (tArcs (oc ++ [(e, (f tn : Int))]))) = cRowsO (o.set (f s) (oc ++ [(e, (f tn : Int))])) := by rw [set_two2, cRowsO_set]
        refine aw_le (le_sink (r := ⟨42, 2, true, cArcs (oc ++ [(e, (f tn : Int))])⟩) (ri := ⟨38, 1, true, (cRowsO o).set (f s) (C.s 6 (oc.length + 1))⟩) (ts := tArcs (oc ++ [(e, (f tn : Int))])) 2 (f s) 6 (oc.length + 1) (by decide) rfl hj6 rfl rfl (show 0 < 2 by omega) (by rw [cArcs_len]; simp) (fz_ca _)) ?_
        simp only [hset6, go_sem]
        (refine wk0 ?_;(repeat clear hK K);repeat refine kq fun K hK=>?_)
        refine rnz ?_
        refine hK _ (k + 1) (by omega) (by omega) ?_
        refine Le.trans (le_pick [0, 1, 2, 3] rfl rfl) ?_
        (try simp only [List.set_nil, List.take_nil, List.take_zero, List.map_append, go_sem])
        (try simp only [cBs_ren, cRowsO_ren])
        rw [hsn, hA]
        exact lmz
       ·have d4 : (e != 0) = true := by simpa using he
        (refine wk1 @d3 ?_;(repeat clear hK K);repeat refine kq fun K hK=>?_)
        refine cxz ?_
        (refine wks1 (an @hat (an @tArcs_len (an @half2 (an @d4 (an @tInts_len (an @hCl @gT)))))) ?_;(repeat clear hK K);repeat refine kq fun K hK=>?_)
        refine cxz ?_
        (refine wk0 ?_;(repeat clear hK K);repeat refine kq fun K hK=>?_)
        (refine aw_regionZ [] (.m 0 0 0 (.m 1 0 0 (.m 2 0 0 (.m 3 0 0 (.m 4 0 0 (.m 5 1 15 (.m 6 0 0 (.m 7 1 14 (.m 8 0 0 (.m 9 0 0 (.m 10 1 14 (.m 11 0 0 (.m 12 1 14 (.m 13 0 0 (.a 14 (.a 15 (.m 16 0 0 (.a 17 .e)))))))))))))))))) (by kernel_rfl) (by kernel_rfl) (by intro c st h; simp [ThenA, InBl, Ret] at h) ?_)
        (refine zk1 (an @cRowsO_len (an (cRowsO_get hgo) (an @hol (an @tInts_len (an @hCl @gT))))) ?_; repeat clear hK K)
        (refine z_2 rfl rfl ?_; intro K1 hK1; refine stpF_a rfl ?_; simp only [go_sem]; (first | refine hK1 _ ?_ | refine andk (hK1 _ ?_)); clear hK1 K1)
        (refine z_2y rfl rfl rfl ?_; intro K1 hK1; refine stpY_ap rfl rfl rfl rfl (by first | rfl | simp only [rowsB, List.getD_cons_zero, List.getD_cons_succ, hne, List.isEmpty_cons, Bool.not_false, Bool.true_and, Bool.and_true, Bool.and_self]) rfl ?_; simp only [go_sem, tArcs_c, tArcs_len, half2, cArcs_snoc, cRowsO_get hgo]; (first | refine hK1 _ ?_ | refine andk (hK1 _ ?_)); clear hK1 K1)
        (refine zk1 (an @cRowsO_len @hol) ?_; repeat clear hK K)
        (refine z_3 rfl rfl rfl rfl ?_; intro K1 hK1; refine stp_ev rfl ?_; simp only [go_sem, cRowsO_len, List.length_set, set_two2, hol]; (first | refine hK1 _ ?_ | refine andk (hK1 _ ?_)); clear hK1 K1)
        refine z_nil ⟨by simp, by simp, ?_⟩
        (try simp only [ThenA, InBl])
        refine hK _ ?_
        clear hK K
        have hj6 : ((cRowsO o).set (f s) (C.s 6 (oc.length + 1)))[f s]? = some (.s 6 (oc.length + 1)) := by rw [List.getElem?_set_self (by rw [cRowsO_len]; omega)]
        have hset6 : ((cRowsO o).set (f s) (C.s 6 (oc.length + 1))).set (f s) (.o (2, 42) (tArcs (oc ++ [(e, (f tn : Int))]))) = cRowsO (o.set (f s) (oc ++ [(e, (f tn : Int))])) := by rw [set_two2, cRowsO_set]
        refine aw_le (le_sink (r := ⟨42, 2, true, cArcs (oc ++ [(e, (f tn : Int))])⟩) (ri := ⟨38, 1, true, (cRowsO o).set (f s) (C.s 6 (oc.length + 1))⟩) (ts := tArcs (oc ++ [(e, (f tn : Int))])) 2 (f s) 6 (oc.length + 1) (by decide) rfl hj6 rfl rfl (show 0 < 2 by omega) (by rw [cArcs_len]; simp) (fz_ca _)) ?_
        simp only [hset6, go_sem]
        (refine wk0 ?_;(repeat clear hK K);repeat refine kq fun K hK=>?_)
        refine rnz ?_
        refine hK _ (k + 1) (by omega) (by omega) ?_
        refine Le.trans (le_pick [0, 1, 2, 3] rfl rfl) ?_
        (try simp only [List.set_nil, List.take_nil, List.take_zero, List.map_append, go_sem])
        (try simp only [cBs_ren, cRowsO_ren])
        rw [hsn, hA]
        exact lmz
      ·have hx : qp1 f (f s) (e, (tn : Int)) = none := by
        show (if e ≠ 0 ∨ f tn ≠ f s then some (e, (f tn : Int)) else none) = _
        rw [if_neg hq]
       have hA : pushO (qp1 f (f s) (e, (tn : Int))) (f s) o = o := by rw [hx]; rfl
       have he : e = 0 := Decidable.not_not.1 fun h => hq (.inl h)
       have hff : f tn = f s := Decidable.not_not.1 fun h => hq (.inr h)
       have d4 : (e != 0) = false := by simp [he]
       have d5 : ((f tn : Int) != (f s : Int)) = false := by simp [hff]
       (refine wk1 @d3 ?_;(repeat clear hK K);repeat refine kq fun K hK=>?_)
       refine cxz ?_
       (refine wks1 (an @hat (an @tArcs_len (an @half2 (an @d4 (an @d5 (an @tInts_len (an @hCl @gT))))))) ?_;(repeat clear hK K);repeat refine kq fun K hK=>?_)
       refine cyz ?_
       (refine wk0 ?_;(repeat clear hK K);repeat refine kq fun K hK=>?_)
       refine rnz ?_
       refine hK _ (k + 1) (by omega) (by omega) ?_
       refine Le.trans (le_pick [0, 1, 2, 3] rfl rfl) ?_
       (try simp only [List.set_nil, List.take_nil, List.take_zero, List.map_append, go_sem])
       (try simp only [cBs_ren, cRowsO_ren])
       rw [hsn, hA]
       exact lmz
     ·have d3 : decide ((k : Int) < (row.length : Int)) = false := by simpa using hlt3
      have hke3 : row.take k = row := List.take_of_length_le (by omega)
      rw [hke3, ← htl]
      (refine wk1 @d3 ?_;(repeat clear hK K);repeat refine kq fun K hK=>?_)
      refine cyz ?_
      (refine ekz ?_;repeat clear hK K)
      (refine wk0 ?_;(repeat clear hK K);repeat refine kq fun K hK=>?_)
      refine rnz ?_
      refine hK _ (s + 1) (by omega) (by omega) ?_
      exact lmz
   | false =>
    rw [hlb] at gL hlset
    rw [Bool.false_or] at hlset
    (refine wk1 @d1 ?_;(repeat clear hK K);repeat refine kq fun K hK=>?_)
    refine cxz ?_
    (refine wks1 (an @tRows_len (an (tRows_get hgR) (an @tInts_len (an @hCl (an @gC (an @cBs_len (an @hll (an @gL (an @tBs_len (an @hBl (an @gB (an @cBs_set (an @hlset (an @tArcs_len @half2)))))))))))))) ?_;(repeat clear hK K);repeat refine kq fun K hK=>?_)
    refine aw_loop (fun k : Nat => { tm := [(1, .a (.c (.t 1 (tInts cl)))), (2, .a (.c (.p 0 0))), (4, .a (.c (.p 1 0))), (6, .a (.c (.t 1 (tBs B)))), (7, .a (.c (.s 2 m))), (8, .a (.c (.s 3 m))), (9, .i s), (11, .i (f s)), (40, .a (.c (.t 1 (tRows R)))), (41, .i R.length), (42, .i s), (64, .a (.c (.t 2 (tArcs row)))), (65, .i row.length), (66, .i k)], hp := [.r ⟨27, 1, false, [.t 1 (tRows R)]⟩, .r ⟨27, 1, false, [.v (.slice none 0 0)]⟩, .r ⟨38, 1, true, cRowsO (qpRow f (f s) (qpOut f m R s) (row.take k))⟩, .r ⟨4, 1, true, cBs (lcL f m B (s + 1))⟩], n := 130, pin := 0 }) (fun k => k ≤ row.length) (fun k => row.length - k) 0 ?_ ?_ ?_
    ·omega
    ·simp only [List.take_zero, qpRow, List.foldl_nil]
     exact lmz
    ·rintro k hk K hK
     by_cases hlt3 : k < row.length
     ·have d3 : decide ((k : Int) < (row.length : Int)) = true := by simpa using hlt3
      have hat := tArcs_at hlt3
      have hb := hbs _ (List.getElem_mem hlt3)
      have hsn := qpRow_snoc f (f s) (qpOut f m R s) (row.take k) row[k]
      rw [← List.take_succ_eq_append_getElem hlt3] at hsn
      generalize row[k] = a at *
      obtain ⟨e, t⟩ := a
      simp only at hat hb
      obtain ⟨_, _, ht0, ht1⟩ := hb
      obtain ⟨tn, rfl⟩ : ∃ tn : Nat, t = (tn : Int) := ⟨t.toNat, by omega⟩
      have htn : tn < R.length := by omega
      obtain ⟨hft, hgt⟩ := hcl tn htn
      have gT := tInts_get hgt
      have hol : (qpRow f (f s) (qpOut f m R s) (row.take k)).length = m := by rw [qpRow_len, qpOut_len]
      have hot := qpRow_tot f (f s) (row.take k) (qpOut f m R s)
      rw [List.length_take] at hot
      generalize qpRow f (f s) (qpOut f m R s) (row.take k) = o at *
      have hrw := totA_row o (f s)
      have hgo : o[f s]? = some (o.getD (f s) []) := by
       rw [List.getD_eq_getElem?_getD, List.getElem?_eq_getElem (by omega)]; rfl
      by_cases hq : e ≠ 0 ∨ f tn ≠ f s
      ·have hx : qp1 f (f s) (e, (tn : Int)) = some (e, (f tn : Int)) := by
        show (if e ≠ 0 ∨ f tn ≠ f s then some (e, (f tn : Int)) else none) = _
        rw [if_pos hq]
       have hA : pushO (qp1 f (f s) (e, (tn : Int))) (f s) o = o.set (f s) (o.getD (f s) [] ++ [(e, (f tn : Int))]) := by rw [hx]; rfl
       generalize o.getD (f s) [] = oc at *
       by_cases he : e = 0
       ·have d4 : (e != 0) = false := by simp [he]
        have d5 : ((f tn : Int) != (f s : Int)) = true := by
         have := hq.resolve_left (by simp [he])
         simp; omega
        (refine wk1 @d3 ?_;(repeat clear hK K);repeat refine kq fun K hK=>?_)
        refine cxz ?_
        (refine wks1 (an @hat (an @tArcs_len (an @half2 (an @d4 (an @d5 (an @tInts_len (an @hCl @gT))))))) ?_;(repeat clear hK K);repeat refine kq fun K hK=>?_)
        refine cxz ?_
        (refine wk0 ?_;(repeat clear hK K);repeat refine kq fun K hK=>?_)
        (refine aw_regionZ [] (.m 0 0 0 (.m 1 0 0 (.m 2 0 0 (.m 3 0 0 (.m 4 0 0 (.m 5 1 15 (.m 6 0 0 (.m 7 1 14 (.m 8 0 0 (.m 9 0 0 (.m 10 1 14 (.m 11 0 0 (.m 12 1 14 (.m 13 0 0 (.a 14 (.a 15 (.m 16 0 0 (.a 17 .e)))))))))))))))))) (by kernel_rfl) (by kernel_rfl) (by intro c st h; simp [ThenA, InBl, Ret] at h) ?_)
        (refine zk1 (an @cRowsO_len (an (cRowsO_get hgo) (an @hol (an @tInts_len (an @hCl @gT))))) ?_; repeat clear hK K)
        (refine z_2 rfl rfl ?_; intro K1 hK1; refine stpF_a rfl ?_; simp only [go_sem]; (first | refine hK1 _ ?_ | refine andk (hK1 _ ?_)); clear hK1 K1)
        (refine z_2y rfl rfl rfl ?_; intro K1 hK1; refine stpY_ap rfl rfl rfl rfl (by first | rfl | simp only [rowsB, List.getD_cons_zero, List.getD_cons_succ, hne, List.isEmpty_cons, Bool.not_false, Bool.true_and, Bool.and_true, Bool.and_self]) rfl ?_; simp only [go_sem, tArcs_c, tArcs_len, half2, cArcs_snoc, cRowsO_get hgo]; (first | refine hK1 _ ?_ | refine andk (hK1 _ ?_)); clear hK1 K1)
        (refine zk1 (an @cRowsO_len @hol) ?_; repeat clear hK K)
        (refine z_3 rfl rfl rfl rfl ?_; intro K1 hK1; refine stp_ev rfl ?_; simp only [go_sem, cRowsO_len, List.length_set, set_two2, hol]; (first | refine hK1 _ ?_ | refine andk (hK1 _ ?_)); clear hK1 K1)
        refine z_nil ⟨by simp, by simp, ?_⟩
        (try simp only [ThenA, InBl])
        refine hK _ ?_
        clear hK K
        have hj6 : ((cRowsO o).set (f s) (C.s 6 (oc.length + 1)))[f s]? = some (.s 6 (oc.length + 1)) := by rw [List.getElem?_set_self (by rw [cRowsO_len]; omega)]
        have hset6 : ((cRowsO o).set (f s) (C.s 6 (oc.length + 1))).set (f s) (.o (2, 42) (tArcs (oc ++ [(e, (f tn : Int))]))) = cRowsO (o.set (f s) (oc ++ [(e, (f tn : Int))])) := by rw [set_two2, cRowsO_set]
        refine aw_le (le_sink (r := ⟨42, 2, true, cArcs (oc ++ [(e, (f tn : Int))])⟩) (ri := ⟨38, 1, true, (cRowsO o).set (f s) (C.s 6 (oc.length + 1))⟩) (ts := tArcs (oc ++ [(e, (f tn : Int))])) 2 (f s) 6 (oc.length + 1) (by decide) rfl hj6 rfl rfl (show 0 < 2 by omega) (by rw [cArcs_len]; simp) (fz_ca _)) ?_
        simp only [hset6, go_sem]
        (refine wk0 ?_;(repeat clear hK K);repeat refine kq fun K hK=>?_)
        refine rnz ?_
        refine hK _ (k + 1) (by omega) (by omega) ?_
        refine Le.trans (le_pick [0, 1, 2, 3] rfl rfl) ?_
        (try simp only [List.set_nil, List.take_nil, List.take_zero, List.map_append, go_sem])
        (try simp only [cBs_ren, cRowsO_ren])
        rw [hsn, hA]
        exact lmz
       ·have d4 : (e != 0) = true := by simpa using he
        (refine wk1 @d3 ?_;(repeat clear hK K);repeat refine kq fun K hK=>?_)
        refine cxz ?_
        (refine wks1 (an @hat (an @tArcs_len (an @half2 (an @d4 (an @tInts_len (an @hCl @gT)))))) ?_;(repeat clear hK K);repeat refine kq fun K hK=>?_)
        refine cxz ?_
        (refine wk0 ?_;(repeat clear hK K);repeat refine kq fun K hK=>?_)
        (refine aw_regionZ [] (.m 0 0 0 (.m 1 0 0 (.m 2 0 0 (.m 3 0 0 (.m 4 0 0 (.m 5 1 15 (.m 6 0 0 (.m 7 1 14 (.m 8 0 0 (.m 9 0 0 (.m 10 1 14 (.m 11 0 0 (.m 12 1 14 (.m 13 0 0 (.a 14 (.a 15 (.m 16 0 0 (.a 17 .e)))))))))))))))))) (by kernel_rfl) (by kernel_rfl) (by intro c st h; simp [ThenA, InBl, Ret] at h) ?_)
        (refine zk1 (an @cRowsO_len (an (cRowsO_get hgo) (an @hol (an @tInts_len (an @hCl @gT))))) ?_; repeat clear hK K)
        (refine z_2 rfl rfl ?_; intro K1 hK1; refine stpF_a rfl ?_; simp only [go_sem]; (first | refine hK1 _ ?_ | refine andk (hK1 _ ?_)); clear hK1 K1)
        (refine z_2y rfl rfl rfl ?_; intro K1 hK1; refine stpY_ap rfl rfl rfl rfl (by first | rfl | simp only [rowsB, List.getD_cons_zero, List.getD_cons_succ, hne, List.isEmpty_cons, Bool.not_false, Bool.true_and, Bool.and_true, Bool.and_self]) rfl ?_; simp only [go_sem, tArcs_c, tArcs_len, half2, cArcs_snoc, cRowsO_get hgo]; (first | refine hK1 _ ?_ | refine andk (hK1 _ ?_)); clear hK1 K1)
        (refine zk1 (an @cRowsO_len @hol) ?_; repeat clear hK K)
        (refine z_3 rfl rfl rfl rfl ?_; intro K1 hK1; refine stp_ev rfl ?_; simp only [go_sem, cRowsO_len, List.length_set, set_two2, hol]; (first | refine hK1 _ ?_ | refine andk (hK1 _ ?_)); clear hK1 K1)
        refine z_nil ⟨by simp, by simp, ?_⟩
        (try simp only [ThenA, InBl])
        refine hK _ ?_
        clear hK K
        have hj6 : ((cRowsO o).set (f s) (C.s 6 (oc.length + 1)))[f s]? = some (.s 6 (oc.length + 1)) := by rw [List.getElem?_set_self (by rw [cRowsO_len]; omega)]
        have hset6 : ((cRowsO o).set (f s) (C.s 6 (oc.length + 1))).set (f s) (.o (2, 42) (tArcs (oc ++ [(e, (f tn : Int))]))) = cRowsO (o.set (f s) (oc ++ [(e, (f tn : Int))])) := by rw [set_two2, cRowsO_set]
        refine aw_le (le_sink (r := ⟨42, 2, true, cArcs (oc ++ [(e, (f tn : Int))])⟩) (ri := ⟨38, 1, true, (cRowsO o).set (f s) (C.s 6 (oc.length + 1))⟩) (ts := tArcs (oc ++ [(e, (f tn : Int))])) 2 (f s) 6 (oc.length + 1) (by decide) rfl hj6 rfl rfl (show 0 < 2 by omega) (by rw [cArcs_len]; simp) (fz_ca _)) ?_
        simp only [hset6, go_sem]
        (refine wk0 ?_;(repeat clear hK K);repeat refine kq fun K hK=>?_)
        refine rnz ?_
        refine hK _ (k + 1) (by omega) (by omega) ?_
        refine Le.trans (le_pick [0, 1, 2, 3] rfl rfl) ?_
        (try simp only [List.set_nil, List.take_nil, List.take_zero, List.map_append, go_sem])
        (try simp only [cBs_ren, cRowsO_ren])
        rw [hsn, hA]
        exact lmz
      ·have hx : qp1 f (f s) (e, (tn : Int)) = none := by
        show (if e ≠ 0 ∨ f tn ≠ f s then some (e, (f tn : Int)) else none) = _
        rw [if_neg hq]
       have hA : pushO (qp1 f (f s) (e, (tn : Int))) (f s) o = o := by rw [hx]; rfl
       have he : e = 0 := Decidable.not_not.1 fun h => hq (.inl h)
       have hff : f tn = f s := Decidable.not_not.1 fun h => hq (.inr h)
       have d4 : (e != 0) = false := by simp [he]
       have d5 : ((f tn : Int) != (f s : Int)) = false := by simp [hff]
       (refine wk1 @d3 ?_;(repeat clear hK K);repeat refine kq fun K hK=>?_)
       refine cxz ?_
       (refine wks1 (an @hat (an @tArcs_len (an @half2 (an @d4 (an @d5 (an @tInts_len (an @hCl @gT))))))) ?_;(repeat clear hK K);repeat refine kq fun K hK=>?_)
       refine cyz ?_
       (refine wk0 ?_;(repeat clear hK K);repeat refine kq fun K hK=>?_)
       refine rnz ?_
       refine hK _ (k + 1) (by omega) (by omega) ?_
       refine Le.trans (le_pick [0, 1, 2, 3] rfl rfl) ?_
       (try simp only [List.set_nil, List.take_nil, List.take_zero, List.map_append, go_sem])
       (try simp only [cBs_ren, cRowsO_ren])
       rw [hsn, hA]
       exact lmz
     ·have d3 : decide ((k : Int) < (row.length : Int)) = false := by simpa using hlt3
      have hke3 : row.take k = row := List.take_of_length_le (by omega)
      rw [hke3, ← htl]
      (refine wk1 @d3 ?_;(repeat clear hK K);repeat refine kq fun K hK=>?_)
      refine cyz ?_
      (refine ekz ?_;repeat clear hK K)
      (refine wk0 ?_;(repeat clear hK K);repeat refine kq fun K hK=>?_)
      refine rnz ?_
      refine hK _ (s + 1) (by omega) (by omega) ?_
      exact lmz
  ·have d1 : decide ((s : Int) < (R.length : Int)) = false := by simpa using hlt
   have hse : s = R.length := by omega
   rw [hse] at d1
   rw [hse]
   (refine wk1 @d1 ?_;(repeat clear hK K);repeat refine kq fun K hK=>?_)
   refine cyz ?_
   (refine ekz ?_;repeat clear hK K)
   have hLl := lcL_len f m B R.length
   have hOl := qpOut_len f m R R.length
   have hOt := qpOut_tot f m R R.length (Nat.le_refl _)
   rw [List.take_length] at hOt
   generalize lcL f m B R.length = L at *
   generalize qpOut f m R R.length = O at *
   (refine aw_le (le_frz (r := ⟨4, 1, true, cBs L⟩) 3 (tBs L) rfl (fz_bs _) (show 0 < (1 : Nat) by omega)) ?_; simp only [ST.frz, A0.frz, AV.frz, C.frz, Nat.le_refl, List.set_cons_zero, List.set_cons_succ, go_sem, show (tBs L).take m = tBs L from List.take_of_length_le (by rw [tBs_len]; omega), tBs_len, hLl])
   (refine wk1 (an @tBs_len @hLl) ?_;(repeat clear hK K);repeat refine kq fun K hK=>?_)
   refine aw_le (le_pick [1, 2] rfl rfl) ?_
   (try simp only [List.set_nil, List.take_nil, List.take_zero, List.map_append, go_sem])
   (try simp only [cRowsO_ren])
   refine aw_loop (fun k : Nat => { tm := [(4, .a (.c (.p 0 0))), (7, .a (.c (.s 1 m))), (101, .a (.c (.t 1 (tBs L)))), (102, .i m), (103, .i k)], hp := [.r ⟨27, 1, false, [.v (.slice none 0 0)]⟩, .r ⟨38, 1, true, cRowsO (qlOut L O k)⟩], n := 130, pin := 0 }) (fun k => k ≤ m) (fun k => m - k) 0 ?_ ?_ ?_
   ·omega
   ·simp only [qlOut]
    exact lmz
   ·rintro k hk K hK
    by_cases hlk : k < m
    ·have d2 : decide ((k : Int) < (m : Int)) = true := by simpa using hlk
     have gL : (tBs L)[k]? = some (.v (.bool (L.getD k false))) := tBs_get (by rw [List.getD_eq_getElem?_getD, List.getElem?_eq_getElem (by omega)]; rfl)
     have hol := qlOut_len L O k
     have hot := qlOut_tot L O k
     have hsn : qlOut L O (k + 1) = pushO (lpO (L.getD k false) k) k (qlOut L O k) := rfl
     rw [hOl] at hol
     generalize qlOut L O k = o at *
     have hrw := totA_row o k
     have hgo : o[k]? = some (o.getD k []) := by
      rw [List.getD_eq_getElem?_getD, List.getElem?_eq_getElem (by omega)]; rfl
     cases hb : L.getD k false with
     | true =>
      rw [hb] at gL hsn
      have hA : pushO (lpO true k) k o = o.set k (o.getD k [] ++ [(0, (k : Int))]) := rfl
      generalize o.getD k [] = oc at *
      (refine wk1 @d2 ?_;(repeat clear hK K);repeat refine kq fun K hK=>?_)
      refine cxz ?_
      (refine wk1 (an @tBs_len (an @hLl @gL)) ?_;(repeat clear hK K);repeat refine kq fun K hK=>?_)
      refine cxz ?_
      (refine wks1 (an @cRowsO_len (an (cRowsO_get hgo) (an @hol (an @set_two2 (an @List.length_set.{0} (an @List.set_cons_zero.{0} (an @List.set_cons_succ.{0} (an @List.take_succ_cons.{0} (an @List.take_zero.{0} (an @List.drop_zero.{0} (an @List.length_take.{0} (an @List.length_drop.{0} (an @List.length_append.{0} (an @tArcs_len (an @half2 (an @tArcs_take (an @tArcs_drop (an @tArcs_c (an @cArcs_len (an @cArcs_one (an @cArcs_snoc (an @cArcs_app @cArcs_take)))))))))))))))))))))) ?_;(repeat clear hK K);repeat refine kq fun K hK=>?_)
      have hj6 : ((cRowsO o).set k (C.s 3 (oc.length + 1)))[k]? = some (.s 3 (oc.length + 1)) := by rw [List.getElem?_set_self (by rw [cRowsO_len]; omega)]
      have hset6 : ((cRowsO o).set k (C.s 3 (oc.length + 1))).set k (.o (2, 42) (tArcs (oc ++ [(0, (k : Int))]))) = cRowsO (o.set k (oc ++ [(0, (k : Int))])) := by rw [set_two2, cRowsO_set]
      refine rnz ?_
      refine hK _ (k + 1) (by omega) (by omega) ?_
      refine Le.trans (le_sink (r := ⟨42, 2, true, cArcs (oc ++ [(0, (k : Int))])⟩) (ri := ⟨38, 1, true, (cRowsO o).set k (C.s 3 (oc.length + 1))⟩) (ts := tArcs (oc ++ [(0, (k : Int))])) 1 k 3 (oc.length + 1) (by decide) rfl hj6 rfl rfl (show 0 < 2 by omega) (by rw [cArcs_len]; simp) (fz_ca _)) ?_
      simp only [hset6, go_sem]
      refine Le.trans (le_pick [0, 1] rfl rfl) ?_
      (try simp only [List.set_nil, List.take_nil, List.take_zero, List.map_append, go_sem])
      (try simp only [cRowsO_ren])
      rw [hsn, hA]
      exact lmz
     | false =>
      rw [hb] at gL hsn
      have hA : pushO (lpO false k) k o = o := rfl
      (refine wk1 @d2 ?_;(repeat clear hK K);repeat refine kq fun K hK=>?_)
      refine cxz ?_
      (refine wk1 (an @tBs_len (an @hLl @gL)) ?_;(repeat clear hK K);repeat refine kq fun K hK=>?_)
      refine cyz ?_
      (refine wk0 ?_;(repeat clear hK K);repeat refine kq fun K hK=>?_)
      refine rnz ?_
      refine hK _ (k + 1) (by omega) (by omega) ?_
      rw [hsn, hA]
      exact lmz
    ·have d2 : decide ((k : Int) < (m : Int)) = false := by simpa using hlk
     have hke : k = m := by omega
     rw [hke] at d2
     rw [hke]
     (refine wk1 @d2 ?_;(repeat clear hK K);repeat refine kq fun K hK=>?_)
     refine cyz ?_
     (refine ekz ?_;repeat clear hK K)
     obtain ⟨hql, hqb, hqt⟩ := hqR
     generalize qlOut L O m = T at *
     have hrT : ∀ r ∈ T, r.length ≤ 1000000 := fun r hr0 => by
      obtain ⟨j, hj, rfl⟩ := List.getElem_of_mem hr0
      have h := totA_row T j
      rw [List.getD_eq_getElem?_getD, List.getElem?_eq_getElem hj, Option.getD_some] at h
      omega
     have hco := fcanon_fc T (by omega) (fun r hr0 a ha => by have := hqb r hr0 a ha; exact ⟨this.2.2.1, this.2.2.2⟩) (by omega) hrT
     generalize hxe : (canonR T).1 = x at *
     refine aw_le (le_ot 1 rfl) ?_
     simp only [cRowsO_ot, go_sem]
     have htk : (tRows T).take m = tRows T := List.take_of_length_le (by rw [tRows_len]; omega)
     (refine aw_le (le_frz (r := ⟨38, 1, true, cRows T⟩) 1 (tRows T) rfl (fz_cr _) (show 0 < (1 : Nat) by omega)) ?_; simp only [ST.frz, A0.frz, AV.frz, C.frz, Nat.le_refl, List.set_cons_zero, List.set_cons_succ, go_sem, htk, tRows_len, hql])
     (refine wk0 ?_;(repeat clear hK K);repeat refine kq fun K hK=>?_)
     (refine ckz hco ?_; intro K1 hK1)
     intro r0 o0 h0
     by_cases ht : totA x ≤ 262144
     ·rw [fcR, if_pos ht] at h0
      obtain ⟨rfl, rfl⟩ := h0
      (refine bkz ?_; clear hK1 K1)
      (refine wks1 @Bool.not_true ?_;(repeat clear hK K);repeat refine kq fun K hK=>?_)
      refine cyz ?_
      (refine wks0 ?_;(repeat clear hK K);repeat refine kq fun K hK=>?_)
      refine rp0 [0] Try.results22 ?_
      refine hend _ _ ?_
      rw [hqe, hxe, quO, if_pos ht]
      exact ⟨rfl, rfl⟩
     ·rw [fcR, if_neg ht] at h0
      obtain ⟨rfl, rfl⟩ := h0
      (refine bkz ?_; clear hK1 K1)
      (refine wks1 @Bool.not_false ?_;(repeat clear hK K);repeat refine kq fun K hK=>?_)
      refine cxz ?_
      (refine wks0 ?_;(repeat clear hK K);repeat refine kq fun K hK=>?_)
      refine rp0 [0] Try.results22 ?_
      refine hend _ _ ?_
      rw [hqe, hxe, quO, if_neg ht]
      exact ⟨rfl, rfl⟩
def cmO (x : List (List Ar)) (r : AV) (o : List Ob) : Prop := o = [.r ⟨27, 1, false, [.t 1 (tRows x)]⟩] ∧ r = .tup [.g [.t 1 (tRows x)], .c (.v (.int .i64 0))]
theorem quX_fc (R : List (List Ar)) (cl : List Int) (hv : valB R = true) (hC : numB cl R.length = true) (hn : R.length ≤ 100) (ht : totA R ≤ 1000) (hr : ∀ r ∈ R, r.length ≤ 1000000) : FC Try.prog 13 [aLts R, aInts cl] [] (fun r o => ∃ B, DvL R B ∧ cmO (canonR (qR R cl B)).1 r o) := by
 refine fc_intro Try.func13 rfl (by rw [Try.ntmps13]; simp) ?_
 rw [Try.ntmps13]
 simp only [enum, aLts, aInts]
 (refine wk0 ?_;(repeat clear hK K);repeat refine kq fun K hK=>?_)
 (refine ckz (quo_fc R cl hv hC (by omega) hr) ?_; intro K1 hK1)
 intro r0 o0 ⟨B, hB, h0⟩
 have hlo : looB R = true := decide_eq_true (of_decide_eq_true hv).1
 obtain ⟨b1, b2, b3⟩ := qR_bd (B := B) hlo hC
 have hm1 : 1 ≤ mxN cl := by have := ((num_ok hC).2.2.1 0 (of_decide_eq_true hlo).1).1; omega
 have hmn := (num_ok hC).2.1
 have hlq : looB (qR R cl B) = true := decide_eq_true ⟨by omega, by show (qR R cl B).length ≤ 16384; omega, by show totA (qR R cl B) ≤ 262144; omega, b2⟩
 have htX := canonR_tot hlq
 rw [quO, if_pos (by omega)] at h0
 have hend : ∀ r o, cmO (canonR (qR R cl B)).1 r o → ∃ B, DvL R B ∧ cmO (canonR (qR R cl B)).1 r o := fun r o h => ⟨B, hB, h⟩
 generalize (canonR (qR R cl B)).1 = x at *
 obtain ⟨rfl, rfl⟩ := h0
 (refine bkz ?_; clear hK1 K1)
 (refine wks0 ?_;(repeat clear hK K);repeat refine kq fun K hK=>?_)
 refine rp0 [1] Try.results13 ?_
 exact hend _ _ ⟨rfl, rfl⟩
set_option maxHeartbeats 1000000 in
theorem cmpr_fc (R : List (List Ar)) (hv : valB R = true) (hn : R.length ≤ 100) (ht : totA R ≤ 1000) (hr : ∀ r ∈ R, r.length ≤ 1000000) : FC Try.prog 6 [aLts R] [] (fun r o => ∃ c B, DlC R c ∧ Nrm R.length c ∧ DvL R B ∧ cmO (canonR (qR R c B)).1 r o) := by
 refine fc_intro Try.func6 rfl (by rw [Try.ntmps6]; simp) ?_
 rw [Try.ntmps6]
 simp only [enum, aLts]
 (refine wk0 ?_;(repeat clear hK K);repeat refine kq fun K hK=>?_)
 (refine aw_regionV [] [(0, 1, 3), (1, 1, 2), (2, 2, 0), (3, 2, 0), (4, 0, 0), (5, 0, 0), (6, 2, 0), (7, 2, 0)] (by kernel_rfl) (by kernel_rfl) (by intro c st h; simp [ThenA, InBl, Ret] at h) ?_)
 (refine vk0 ?_; repeat clear hK K)
 (refine v_2 rfl rfl ?_; intro K1 hK1; refine stpX_mono ?_; refine xv [] (dcl_fc R hv hn ht hr) ?_ ?_)
 ·rintro _ _ ⟨_, _, _, rfl, rfl⟩ i o hi hl; simp at hl
 rintro _ _ ⟨c, hc, hN, rfl, rfl⟩
 (refine bkz ?_; clear hK1 K1)
 (refine vk0 ?_; repeat clear hK K)
 (refine v_2 rfl rfl ?_; intro K1 hK1; refine stpX_mono ?_; refine xv [] (quX_fc R c hv hN.num hn ht hr) ?_ ?_)
 ·rintro _ _ ⟨_, _, rfl, rfl⟩ i o hi hl; simp at hl
 rintro _ _ ⟨B, hB, rfl, rfl⟩
 have hend : ∀ r o, cmO (canonR (qR R c B)).1 r o → ∃ c B, DlC R c ∧ Nrm R.length c ∧ DvL R B ∧ cmO (canonR (qR R c B)).1 r o := fun r o h => ⟨c, B, hc, hN, hB, h⟩
 generalize (canonR (qR R c B)).1 = x at *
 (refine bkz ?_; clear hK1 K1)
 (refine vk0 ?_; repeat clear hK K)
 (refine v_3 rfl rfl rfl ?_; intro K1 hK1; refine stp_ev rfl ?_; simp only [go_sem, ST.put, setC, A0.cells]; (first | refine hK1 _ ?_ | refine andk (hK1 _ ?_)); clear hK1 K1)
 (refine v_3 rfl rfl rfl ?_; intro K1 hK1; refine stp_ev rfl ?_; simp only [go_sem]; (first | refine hK1 _ ?_ | refine andk (hK1 _ ?_)); clear hK1 K1)
 (refine vk0 ?_; repeat clear hK K)
 (refine wk0 ?_;(repeat clear hK K);repeat refine kq fun K hK=>?_)
 refine rp0 [1] Try.results6 ?_
 exact hend _ _ ⟨rfl, rfl⟩
end Go.Proofs.Ytahnebicgbjonaa
namespace Go.Proofs.Ytahnebicgbjonaa
set_option linter.unusedVariables false
set_option linter.unusedSimpArgs false
open Go.RowKit
set_option maxRecDepth 100000

end Go.Proofs.Ytahnebicgbjonaa
namespace Go.Proofs.Ytahnebicgbjonaa
set_option linter.unusedVariables false
set_option linter.unusedSimpArgs false
open Go.RowKit
set_option maxRecDepth 100000

theorem rints_fc (xs ys : List Int) (hn : xs.length ≤ 140737488355328) (hm : ys.length ≤ 140737488355328) : FC Try.prog 18 [aInts xs, aInts ys] [] (fun r o => o = [] ∧ r = .b (decide (xs = ys))) := by
 refine fc_intro Try.func18 rfl (by rw [Try.ntmps18]; simp) ?_
 rw [Try.ntmps18]
 simp only [enum, aInts]
 (refine wk1 @tInts_len ?_;(repeat clear hK K);repeat refine kq fun K hK=>?_)
 (refine aw_cnd ?_; intro X Y hX hY; simp only [go_sem])
 refine ⟨fun h => hX ?_, fun h => hY ?_⟩
 ·clear hX hY X Y
  (refine wk0 ?_;(repeat clear hK K);repeat refine kq fun K hK=>?_)
  refine rq0 Try.results18 ?_
  have : xs ≠ ys := by rintro rfl; simp at h
  simp [this]
 ·clear hX hY X Y
  have hlen : xs.length = ys.length := by simp at h; omega
  clear h
  (refine wk0 ?_;(repeat clear hK K);repeat refine kq fun K hK=>?_)
  refine aw_loop (fun k : Nat => { tm := [(0, .a (.c (.t 1 (tInts xs)))), (1, .a (.c (.t 1 (tInts ys)))), (5, .i k)], hp := [], n := 26, pin := 0 }) (fun k => k ≤ xs.length ∧ xs.take k = ys.take k) (fun k => xs.length - k) 0 ?_ ?_ ?_
  ·exact ⟨by omega, rfl⟩
  ·exact lmz
  ·rintro k ⟨hk, he⟩ K hK
   (refine wk1 @tInts_len ?_;(repeat clear hK K);repeat refine kq fun K hK=>?_)
   (refine aw_cnd ?_; intro X Y hX hY; simp only [go_sem])
   refine ⟨fun h => hX ?_, fun h => hY ?_⟩
   ·have hlt : k < xs.length := by simpa using h
    have hlt2 : k < ys.length := by omega
    clear hX hY X Y h
    (refine wk0 ?_;(repeat clear hK K);repeat refine kq fun K hK=>?_)
    (refine aw_regionU 8 [(0, 0), (1, 0), (2, 0), (3, 1), (4, 0), (5, 0), (6, 0), (7, 1), (8, 2)] (by kernel_rfl) (by kernel_rfl) (by intro c st h; simp [ThenA, InBl, Ret] at h) ?_)
    (refine uk1 (an @tInts_len (an (tInts_get (List.getElem?_eq_getElem hlt)) (tInts_get (List.getElem?_eq_getElem hlt2)))) ?_; repeat clear hK K)
    (refine aw_cnd ?_; intro X Y hX hY; simp only [go_sem])
    refine ⟨fun h => hX ?_, fun h => hY ?_⟩
    ·clear hX hY X Y
     (refine wk0 ?_;(repeat clear hK K);repeat refine kq fun K hK=>?_)
     refine rq0 Try.results18 ?_
     have : xs ≠ ys := by rintro rfl; simp at h
     simp [this]
    ·clear hX hY X Y
     (refine wk0 ?_;(repeat clear hK K);repeat refine kq fun K hK=>?_)
     refine rnz ?_
     refine hK _ (k + 1) ⟨by omega, ?_⟩ (by omega) ?_
     ·have h1 : xs[k] = ys[k] := by simpa using h
      rw [List.take_succ_eq_append_getElem hlt, List.take_succ_eq_append_getElem hlt2, he, h1]
     ·exact lmz
   ·have hge : k = xs.length := by simp at h; omega
    clear hX hY X Y
    (refine ekz ?_;repeat clear hK K)
    (refine wk0 ?_;(repeat clear hK K);repeat refine kq fun K hK=>?_)
    refine rq0 Try.results18 ?_
    have : xs = ys := by
     rw [hge, List.take_length, hlen, List.take_length] at he
     exact he
    simp [this]
end Go.Proofs.Ytahnebicgbjonaa
namespace Go.Proofs.Ytahnebicgbjonaa
set_option linter.unusedVariables false
set_option linter.unusedSimpArgs false
open Go.RowKit
set_option maxRecDepth 100000

end Go.Proofs.Ytahnebicgbjonaa
namespace Go.Proofs.Ytahnebicgbjonaa
set_option linter.unusedVariables false
set_option linter.unusedSimpArgs false
open Go.RowKit
set_option maxRecDepth 100000
attribute [local go_sem] List.set_cons_zero List.set_cons_succ List.map_cons List.map_nil List.take_succ_cons List.take_zero List.drop_zero List.drop_succ_cons C.pl C.one List.all_cons List.all_nil Bool.and_true Nat.mul_one Int.toNat_natCast

def sK : List (List Ar) := [[(0, 1)], [(2, 2)], []]
def sQ : List (List Ar) := [[(2, 1)], []]
theorem sK_val : valB sK = true := by kernel_rfl
theorem sK_adj : ∀ v w, w ∈ Adj true sK v → v = 0 ∧ w = 1
 | 0, w, h => by have e : Adj true sK 0 = [1] := rfl; rw [e] at h; simp at h; omega
 | 1, w, h => by have e : Adj true sK 1 = [] := rfl; rw [e] at h; simp at h
 | 2, w, h => by have e : Adj true sK 2 = [] := rfl; rw [e] at h; simp at h
 | n + 3, w, h => by have e : Adj true sK (n + 3) = [] := rfl; rw [e] at h; simp at h
theorem sK_rc {v u : Nat} (h : Rc (Adj true sK) v u) : u = v ∨ (v = 0 ∧ u = 1) := by
 induction h with
 | refl => exact .inl rfl
 | tail _ h2 ih => have := sK_adj _ _ h2; omega
theorem sK_dv (s : Nat) : ¬ Dv sK s := by
 rintro ⟨g, _, w, hw, hr⟩
 have := sK_adj _ _ hw
 have := sK_rc hr
 omega
theorem sK_B : DvL sK [false, false, false] := by
 refine ⟨rfl, fun s hs => ⟨fun h => ?_, fun h => absurd h (sK_dv s)⟩⟩
 match s, hs with
 | 0, _ => simp at h
 | 1, _ => simp at h
 | 2, _ => simp at h
theorem sK_01 : Rc (Adj true sK) 0 1 := .tail (.refl 0) (show 1 ∈ [1] by simp)
def sk (s : Nat) : Nat := if s ≤ 1 then 0 else 1
theorem sK_mt : MtK sK sk sK sk := by
 intro s t hs ht e
 have hs : s < 3 := hs
 have ht : t < 3 := ht
 refine ⟨fun d => absurd d (sK_dv s), fun a ha => ?_⟩
 by_cases he : s = t
 ·subst he; exact ⟨a, ha, rfl, rfl⟩
 have h2 : (s = 0 ∧ t = 1) ∨ (s = 1 ∧ t = 0) := by
  unfold sk at e
  split at e <;> split at e <;> omega
 rcases (mem_satR sK_val hs).1 ha with ⟨h0, u, hu, hr⟩ | ⟨h0, v, hr, hv⟩
 ·have hu2 := sK_rc hr
  have hk : sk a.2.toNat = 0 := by rw [hu]; unfold sk; rw [if_pos (by simp only [Int.toNat_natCast]; omega)]
  have hr1 : Rc (Adj true sK) t 1 := by
   rcases h2 with ⟨_, rfl⟩ | ⟨_, rfl⟩
   ·exact .refl 1
   ·exact sK_01
  exact ⟨(0, 1), (mem_satR sK_val ht).2 (.inl ⟨rfl, 1, rfl, hr1⟩), h0.symm, by rw [hk]; rfl⟩
 ·have hv2 := sK_rc hr
  have hv1 : v = 1 := by
   have : v = 0 ∨ v = 1 := by omega
   rcases this with rfl | rfl
   ·have e0 : sK.getD 0 [] = [(0, 1)] := rfl
    rw [e0] at hv
    simp at hv
    exact absurd (by rw [hv]) h0
   ·rfl
  subst hv1
  have hr1 : Rc (Adj true sK) t 1 := by
   rcases h2 with ⟨_, rfl⟩ | ⟨_, rfl⟩
   ·exact .refl 1
   ·exact sK_01
  exact ⟨a, (mem_satR sK_val ht).2 (.inr ⟨h0, 1, hr1, hv⟩), rfl, rfl⟩
theorem sK_c {c : List Int} (hc : DlC sK c) (hN : Nrm sK.length c) : c = [0, 0, 1] := by
 have h01 : c.getD 0 0 = c.getD 1 0 := sK_mt.le sK_val (by decide) hc (by decide) (by decide) rfl
 have h02 : c.getD 0 0 ≠ c.getD 2 0 := fun h => by
  obtain ⟨_, q⟩ := DlC.key sK_val (by decide) hc 0 2 (by decide) (by decide) h
  obtain ⟨b, hb, e1, _⟩ := q (2, 2) ((mem_satR sK_val (by decide)).2 (.inr ⟨by decide, 1, sK_01, by show (2, 2) ∈ [((2 : Int), (2 : Int))]; simp⟩))
  rcases (mem_satR sK_val (by decide)).1 hb with ⟨h0, _⟩ | ⟨h0, t, hr, ht⟩
  ·rw [h0] at e1; simp at e1
  ·have := sK_rc hr
   have : t = 2 := by omega
   subst this
   have e0 : sK.getD 2 [] = [] := rfl
   rw [e0] at ht
   simp at ht
 have hs3 : ∀ s, s < 3 → (c.getD s 0 = c.getD 0 0 ∧ sk s = 0) ∨ (c.getD s 0 = c.getD 2 0 ∧ sk s = 1)
  | 0, _ => .inl ⟨rfl, rfl⟩
  | 1, _ => .inl ⟨h01.symm, rfl⟩
  | 2, _ => .inr ⟨rfl, rfl⟩
 have e : nmG (fun s => c.getD s 0) 3 = nmG sk 3 := nmG_ext 3 fun s t hs ht => by
  rcases hs3 s hs with ⟨a1, a2⟩ | ⟨a1, a2⟩ <;> rcases hs3 t ht with ⟨b1, b2⟩ | ⟨b1, b2⟩ <;> rw [a1, b1, a2, b2]
  ·exact iff_of_true rfl rfl
  ·exact iff_of_false h02 (by decide)
  ·exact iff_of_false h02.symm (by decide)
  ·exact iff_of_true rfl rfl
 have h3 : (nmG (fun s => c.getD s 0) 3).1 = c := hN
 rw [← h3, e]
 rfl
theorem sK_q : (canonR (qR sK [0, 0, 1] [false, false, false])).1 = sQ := by kernel_rfl
theorem scm_fc : FC Try.prog 6 [aLts sK] [] (fun r o => o = [.r ⟨27, 1, false, [.t 1 (tRows sQ)]⟩] ∧ r = .tup [.g [.t 1 (tRows sQ)], .c (.v (.int .i64 0))]) :=
 (cmpr_fc sK sK_val (by decide) (by decide) (by decide)).mono fun r o ⟨c, B, hc, hN, hB, h⟩ => by
  rw [sK_c hc hN, hB.uniq sK_B, sK_q] at h
  exact h
theorem scl_fc : FC Try.prog 8 [aLts sK] [] (fun r o => o = [] ∧ r = aInts [0, 0, 1]) :=
 (dcl_fc sK sK_val (by decide) (by decide) (by decide)).mono fun r o ⟨c, hc, hN, h1, h2⟩ => by
  rw [sK_c hc hN] at h2
  exact ⟨h1, h2⟩
set_option maxHeartbeats 1000000 in
theorem schn_fc : FC Try.prog 17 [] [] (fun r o => o = [.r ⟨27, 1, false, [.t 1 (tRows sK)]⟩] ∧ r = aLts sK) := by
 refine fc_intro Try.func17 rfl (by rw [Try.ntmps17]; simp) ?_
 rw [Try.ntmps17]
 simp only [enum]
 (refine wks0 ?_;(repeat clear hK K);repeat refine kq fun K hK=>?_)
 refine aw_le (le_sink (r := ⟨42, 2, true, cArcs [(0, 1)]⟩) (ts := tArcs [(0, 1)]) 3 0 1 1 (by decide) rfl rfl rfl rfl (show 0 < 2 by omega) rfl (fz_ca _)) ?_
 simp only [go_sem]
 refine aw_le (le_sink (r := ⟨42, 2, true, cArcs [(2, 2)]⟩) (ts := tArcs [(2, 2)]) 3 1 2 1 (by decide) rfl rfl rfl rfl (show 0 < 2 by omega) rfl (fz_ca _)) ?_
 simp only [go_sem]
 refine aw_le (le_nt 3 [2, 2, 2] rfl) ?_
 simp only [ntA, otC, go_sem]
 refine aw_le (le_sink (r := ⟨38, 1, true, cRows sK⟩) (ri := ⟨27, 1, false, [.s 3 3]⟩) (ts := tRows sK) 0 0 3 3 (by decide) rfl rfl rfl rfl (show 0 < 1 by omega) rfl (fz_cr _)) ?_
 simp only [go_sem]
 refine aw_le (le_ot 0 rfl) ?_
 simp only [otC, go_sem]
 ((try refine aw_ret ?_); (try simp only [ThenA, InBl]); refine ret_le (le_pick [0] rfl rfl) ?_; (try simp only [List.set_nil, List.take_nil, List.take_zero, List.map_append, go_sem]); ((try refine aw_ret ?_); (try refine lst_nil ?_); (try simp only [ThenA, InBl]); refine ret_mk (by first | exact .inl rfl | exact .inr rfl) rfl ?_; simp only [rtn, resA, resL, resV, Try.results17, go_sem, true_and, and_true, aLts]))
set_option maxHeartbeats 2000000 in
theorem sane27d_fc : FC Try.prog 9 [] [] (fun r _ => r = .b true) := by
 refine fc_intro Try.func9 rfl (by rw [Try.ntmps9]; simp) ?_
 rw [Try.ntmps9]
 simp only [enum]
 have hcn := schn_fc
 have hsd := scm_fc
 have hcl := scl_fc
 have hsi := rints_fc [0, 0, 1] [0, 0, 1] (by decide) (by decide)
 have hsm := same_fc sQ (by decide) (by decide)
 simp only [aLts, aInts] at hcn hsd hcl hsi hsm
 (refine wk0 ?_;(repeat clear hK K);repeat refine kq fun K hK=>?_)
 (refine ckz hcn ?_; intro K1 hK1)
 rintro _ _ ⟨rfl, rfl⟩
 (refine bkz ?_; clear hK1 K1)
 (refine wk0 ?_;(repeat clear hK K);repeat refine kq fun K hK=>?_)
 (refine ckz hsd ?_; intro K1 hK1)
 rintro _ _ ⟨rfl, rfl⟩
 (refine bkz ?_; clear hK1 K1)
 (refine wks0 ?_;(repeat clear hK K);repeat refine kq fun K hK=>?_)
 (refine lst_goU rfl rfl (by simp only [go_sem] <;> rfl) ?_; intro K1 hK1; refine (stp_call0 (ids := []) (hcn) rfl rfl (by simp only [go_sem]) (by kernel_rfl) (by (simp only [List.append_nil, go_sem]) <;> rfl) ?_).stp)
 rintro _ _ ⟨rfl, rfl⟩
 (refine bkz ?_; clear hK1 K1)
 (refine wk0 ?_;(repeat clear hK K);repeat refine kq fun K hK=>?_)
 (refine lst_goU rfl rfl (by simp only [go_sem] <;> rfl) ?_; intro K1 hK1; refine (stp_call0 (ids := []) (hcl) rfl rfl (by simp only [go_sem]) (by kernel_rfl) (by (simp only [List.append_nil, go_sem]) <;> rfl) ?_).stp)
 rintro _ _ ⟨rfl, rfl⟩
 (refine bkz ?_; clear hK1 K1)
 (refine wks0 ?_;(repeat clear hK K);repeat refine kq fun K hK=>?_)
 (refine lst_le (le_frz (r := ⟨3, 1, true, cInts [0, 0, 1]⟩) 4 (tInts [0, 0, 1]) rfl (fz_c _) (show 0 < (1 : Nat) by omega)) ?_; simp only [ST.frz, A0.frz, AV.frz, C.frz, Nat.le_refl, List.set_cons_zero, List.set_cons_succ, go_sem, show (tInts [0, 0, 1]).take 3 = tInts [0, 0, 1] from rfl, show (if 3 ≤ (tInts [0, 0, 1]).length then C.t 1 (tInts [0, 0, 1]) else C.u) = C.t 1 (tInts [0, 0, 1]) from rfl])
 (refine lst_goU rfl rfl (by simp only [go_sem] <;> rfl) ?_; intro K1 hK1; refine (stp_call0 (ids := []) (hsi) rfl rfl (by simp only [go_sem]) (by kernel_rfl) (by (simp only [List.append_nil, go_sem]) <;> rfl) ?_).stp)
 rintro _ _ ⟨rfl, rfl⟩
 (refine bkz ?_; clear hK1 K1)
 (refine wks0 ?_;(repeat clear hK K);repeat refine kq fun K hK=>?_)
 refine lst_le (le_sink (r := ⟨42, 2, true, cArcs [(2, 1)]⟩) (ts := tArcs [(2, 1)]) 6 0 5 1 (by decide) rfl rfl rfl rfl (show 0 < 2 by omega) rfl (fz_ca _)) ?_
 simp only [go_sem]
 refine lst_le (le_nt 6 [2, 2] rfl) ?_
 simp only [ntA, otC, go_sem]
 (refine lst_le (le_frz (r := ⟨38, 1, true, cRows sQ⟩) 6 (tRows sQ) rfl (fz_cr _) (show 0 < (1 : Nat) by omega)) ?_; simp only [ST.frz, A0.frz, AV.frz, C.frz, Nat.le_refl, List.set_cons_zero, List.set_cons_succ, go_sem, show (tRows sQ).take 2 = tRows sQ from rfl, show (if 2 ≤ (tRows sQ).length then C.t 1 (tRows sQ) else C.u) = C.t 1 (tRows sQ) from rfl])
 (refine lst_goU rfl rfl (by simp only [go_sem] <;> rfl) ?_; intro K1 hK1; refine (stp_call0 (ids := []) (hsm) rfl rfl (by simp only [go_sem]) (by kernel_rfl) (by (simp only [List.append_nil, go_sem]) <;> rfl) ?_).stp)
 rintro _ _ ⟨rfl, rfl⟩
 (refine bkz ?_; clear hK1 K1)
 (refine wk0 ?_;(repeat clear hK K);repeat refine kq fun K hK=>?_)
 exact rqc0 Try.results9
theorem chn8_fc (T : List Int) (hT : TpOk T) (a0 : Nat) (ha : a0 ≤ 500000) :
  FC Try.prog 5 [.a (.c (.p 0 0)), .i 8] [tape T a0] (fun r o => ∃ (a' : Nat) (R : List (List Ar)), (o = [tape T a', oLts R] ∧ r = aLts R) ∧ a' ≤ a0 + 70 ∧ valB R = true ∧ R.length ≤ 8 ∧ totA R ≤ 200 ∧ ∀ r ∈ R, r.length ≤ 1000000) :=
 (chain_fc T hT a0 8 ha (by omega) (by omega)).mono fun r o ⟨a', R, h0, h1, h2, h3, h4, h5⟩ => by
  obtain ⟨q1, q2, q3⟩ := ok_val h5 rfl h3 (by omega) (by omega)
  exact ⟨a', R, ⟨h0, h1⟩, by omega, q1, h4, q2, fun r hr => by have := q3 r hr; omega⟩
set_option maxHeartbeats 8000000 in
theorem lawCmp_fc (T : List Int) (hT : TpOk T) : FC Try.prog 3 [aInts T] [] (fun r _ => r = .b true) := by
 refine fc_intro Try.func3 rfl (by rw [Try.ntmps3]; simp) ?_
 rw [Try.ntmps3]
 simp only [enum, aInts]
 (repeat (first | (refine aw_seq ?_; intro K hK) | refine aw_block ?_ | refine aw_region ?_ | (refine lst_x rfl rfl ?_; intro K1 hK1; simp only [go_sem]; (first | refine hK1 _ ?_ | refine andk (hK1 _ ?_)); clear hK1 K1) | ((first | refine lst_nil ?_ | refine aw_skip ?_); refine hK _ ?_; clear hK K)))
 (refine lst_cons rfl ?_; intro K1 hK1; refine (stp_call0 (ids := []) (new_fc T) rfl rfl (by simp only [go_sem]) (by kernel_rfl) (by (simp only [List.append_nil, go_sem]) <;> rfl) ?_).stp)
 rintro _ _ ⟨rfl, rfl⟩
 (simp only [aInts, aSets, tape, List.append_nil, List.nil_append, List.length_map, go_sem]; refine hK1 _ ?_; clear hK1 K1)
 (repeat (first | (refine aw_seq ?_; intro K hK) | refine aw_block ?_ | refine aw_region ?_ | (refine lst_x rfl rfl ?_; intro K1 hK1; simp only [go_sem]; (first | refine hK1 _ ?_ | refine andk (hK1 _ ?_)); clear hK1 K1) | ((first | refine lst_nil ?_ | refine aw_skip ?_); refine hK _ ?_; clear hK K)))
 refine aw_loop (fun p : Nat × Nat => { tm := [(3, .a (.c (.p 0 0))), (4, .i p.1)], hp := [.r ⟨37, 2, false, [.t 1 (tInts T), .v (.int .i64 p.2)]⟩], n := 67, pin := 0 }) (fun p => p.1 ≤ 3 ∧ p.2 ≤ 300 * p.1) (fun p => 3 - p.1) (0, 0) ?_ ?_ ?_
 ·exact ⟨by simp, by simp⟩
 ·(refine le_tm ?_; simp only [LeTm, go_sem]; try simp)
 ·rintro ⟨k, a⟩ ⟨hk, ha⟩ K hK
  simp only at hk ha ⊢
  (repeat (first | (refine aw_seq ?_; intro K hK) | refine aw_block ?_ | refine aw_region ?_ | (refine lst_x rfl rfl ?_; intro K1 hK1; simp only [go_sem]; (first | refine hK1 _ ?_ | refine andk (hK1 _ ?_)); clear hK1 K1) | ((first | refine lst_nil ?_ | refine aw_skip ?_); refine hK _ ?_; clear hK K)))
  (refine aw_cnd ?_; intro X Y hX hY; simp only [go_sem])
  refine ⟨fun h => hX ?_, fun h => hY ?_⟩
  ·have hlt : k < 3 := by simp at h; omega
   clear hX hY X Y h
   (repeat (first | (refine aw_seq ?_; intro K hK) | refine aw_block ?_ | refine aw_region ?_ | (refine lst_x rfl rfl ?_; intro K1 hK1; simp only [go_sem]; (first | refine hK1 _ ?_ | refine andk (hK1 _ ?_)); clear hK1 K1) | ((first | refine lst_nil ?_ | refine aw_skip ?_); refine hK _ ?_; clear hK K)))
   (refine lst_cons rfl ?_; intro K1 hK1; refine stp_callσ (ids := []) [0] (chn8_fc T hT a (by omega)) rfl rfl (by simp only [go_sem]) (by first | assumption | kernel_rfl) rfl rfl (by (simp only [List.map_append, List.append_nil, go_sem]) <;> rfl) (by (simp only [pkh, tape, go_sem]) <;> rfl) ?_ ?_)
   ·rintro _ _ ⟨_, _, ⟨rfl, rfl⟩, _⟩; rfl
   rintro _ _ ⟨a1, R, ⟨rfl, rfl⟩, ha1, hv, hRn, hRt, hRr⟩
   (simp only [aInts, aSets, tape, oLts, aLts, List.append_nil, List.nil_append, List.length_map, go_sem]; refine hK1 _ ?_; clear hK1 K1)
   (repeat (first | (refine aw_seq ?_; intro K hK) | refine aw_block ?_ | refine aw_region ?_ | (refine lst_x rfl rfl ?_; intro K1 hK1; simp only [go_sem, ST.put, setC, A0.cells]; (first | refine hK1 _ ?_ | refine andk (hK1 _ ?_)); clear hK1 K1) | ((first | refine lst_nil ?_ | refine aw_skip ?_); refine hK _ ?_; clear hK K)))
   (refine lst_cons rfl ?_; intro K1 hK1; refine (stp_call0 (ids := []) (cmpr_fc R hv (by omega) (by omega) hRr) rfl rfl (by simp only [go_sem]) (by kernel_rfl) (by (simp only [List.append_nil, go_sem]) <;> rfl) ?_).stp)
   intro r0 o0 ⟨c, B, hc, hN, hB, h⟩
   obtain ⟨Z, hZe, hZv, hZl, hZt, hZi, hZ1, hZ2⟩ := cmp_law hv (by omega) (by omega) hc hN hB
   rw [← hZe] at h
   obtain ⟨rfl, rfl⟩ := h
   clear hc hN hB hZe
   have hZr : ∀ r ∈ Z, r.length ≤ 1000000 := fun r hr => by have := row_tot3 r hr; omega
   have he1 : EqD R Z = true := EqD.yes hv hZv (by omega) (by omega) hZ1
   have he2 : EqD Z R = true := EqD.yes hZv hv (by omega) (by omega) hZ2
   have hgt : decide ((Z.length : Int) > (R.length : Int)) = false := decide_eq_false (by omega)
   clear hZ1 hZ2
   (simp only [aInts, aSets, List.append_nil, List.nil_append, List.length_map, go_sem]; refine hK1 _ ?_; clear hK1 K1)
   (repeat (first | (refine aw_seq ?_; intro K hK) | refine aw_block ?_ | refine aw_region ?_ | (refine lst_x rfl rfl ?_; intro K1 hK1; simp only [go_sem, ST.put, setC, A0.cells]; (first | refine hK1 _ ?_ | refine andk (hK1 _ ?_)); clear hK1 K1) | ((first | refine lst_nil ?_ | refine aw_skip ?_); refine hK _ ?_; clear hK K)))
   (refine lst_goU rfl rfl (by simp only [go_sem] <;> rfl) ?_; intro K1 hK1; refine (stp_call0 (ids := []) (deq_fc R Z hv hZv (by omega) (by omega) hRr hZr) rfl rfl (by simp only [go_sem]) (by kernel_rfl) (by (simp only [List.append_nil, go_sem]) <;> rfl) ?_).stp)
   rintro _ _ ⟨rfl, rfl⟩
   (simp only [aInts, aSets, List.append_nil, List.nil_append, List.length_map, go_sem]; refine hK1 _ ?_; clear hK1 K1)
   rw [he1]
   (repeat (first | (refine aw_seq ?_; intro K hK) | refine aw_block ?_ | refine aw_region ?_ | (refine lst_x rfl rfl ?_; intro K1 hK1; simp only [go_sem, Bool.not_true]; (first | refine hK1 _ ?_ | refine andk (hK1 _ ?_)); clear hK1 K1) | ((first | refine lst_nil ?_ | refine aw_skip ?_); refine hK _ ?_; clear hK K)))
   (refine lst_goU rfl rfl (by simp only [go_sem] <;> rfl) ?_; intro K1 hK1; refine (stp_call0 (ids := []) (deq_fc Z R hZv hv (by omega) (by omega) hZr hRr) rfl rfl (by simp only [go_sem]) (by kernel_rfl) (by (simp only [List.append_nil, go_sem]) <;> rfl) ?_).stp)
   rintro _ _ ⟨rfl, rfl⟩
   (simp only [aInts, aSets, List.append_nil, List.nil_append, List.length_map, go_sem]; refine hK1 _ ?_; clear hK1 K1)
   rw [he2]
   (repeat (first | (refine aw_seq ?_; intro K hK) | refine aw_block ?_ | refine aw_region ?_ | (refine lst_x rfl rfl ?_; intro K1 hK1; simp only [go_sem, Bool.not_true, tRows_len, hgt]; (first | refine hK1 _ ?_ | refine andk (hK1 _ ?_)); clear hK1 K1) | ((first | refine lst_nil ?_ | refine aw_skip ?_); refine hK _ ?_; clear hK K)))
   (refine aw_cnd ?_; intro X Y hX hY; simp only [go_sem])
   refine hY ?_
   clear hX hY X Y
   (repeat (first | (refine aw_seq ?_; intro K hK) | refine aw_block ?_ | refine aw_region ?_ | (refine lst_x rfl rfl ?_; intro K1 hK1; simp only [go_sem]; (first | refine hK1 _ ?_ | refine andk (hK1 _ ?_)); clear hK1 K1) | ((first | refine lst_nil ?_ | refine aw_skip ?_); refine hK _ ?_; clear hK K)))
   (refine lst_cons rfl ?_; intro K1 hK1; refine (stp_call0 (ids := []) (dcl_fc Z hZv (by omega) (by omega) hZr) rfl rfl (by simp only [go_sem]) (by kernel_rfl) (by (simp only [List.append_nil, go_sem]) <;> rfl) ?_).stp)
   rintro _ _ ⟨x, hx, hxN, rfl, rfl⟩
   obtain rfl := hZi x hx hxN
   clear hZi hx hxN
   (simp only [aInts, aSets, List.append_nil, List.nil_append, List.length_map, go_sem]; refine hK1 _ ?_; clear hK1 K1)
   (repeat (first | (refine aw_seq ?_; intro K hK) | refine aw_block ?_ | refine aw_region ?_ | (refine lst_x rfl rfl ?_; intro K1 hK1; simp only [go_sem]; (first | refine hK1 _ ?_ | refine andk (hK1 _ ?_)); clear hK1 K1) | ((first | refine lst_nil ?_ | refine aw_skip ?_); refine hK _ ?_; clear hK K)))
   have hlen : (tInts ((List.range Z.length).map Int.ofNat)).length = Z.length := by rw [tInts_len]; simp
   refine aw_loop (fun s : Nat => { tm := [(3, .a (.c (.p 0 0))), (4, .i k), (6, .a (.c (.p 1 0))), (8, .a (.c (.t 1 (tInts ((List.range Z.length).map Int.ofNat))))), (9, .i s)], hp := [.r ⟨37, 2, false, [.t 1 (tInts T), .v (.int .i64 a1)]⟩, .r ⟨27, 1, false, [.t 1 (tRows Z)]⟩], n := 67, pin := 0 }) (fun s => s ≤ Z.length) (fun s => Z.length - s) 0 ?_ ?_ ?_
   ·omega
   ·refine Le.trans (le_pick [0, 4] rfl rfl) ?_
    (try simp only [List.set_nil, List.take_nil, List.take_zero, List.map_append, go_sem])
    (refine le_tm ?_; simp only [LeTm, go_sem]; try simp)
   ·rintro s hs K hK
    by_cases hls : s < Z.length
    ·have d1 : decide ((s : Int) < (Z.length : Int)) = true := by simpa using hls
     have hg : (tInts ((List.range Z.length).map Int.ofNat))[s]? = some (.v (.int .i64 s)) := tInts_get (by rw [List.getElem?_map, List.getElem?_range hls]; rfl)
     (repeat (first | (refine aw_seq ?_; intro K hK) | refine aw_block ?_ | refine aw_region ?_ | (refine lst_x rfl rfl ?_; intro K1 hK1; simp only [go_sem, hlen, d1]; (first | refine hK1 _ ?_ | refine andk (hK1 _ ?_)); clear hK1 K1) | ((first | refine lst_nil ?_ | refine aw_skip ?_); refine hK _ ?_; clear hK K)))
     (refine aw_cnd ?_; intro X Y hX hY; simp only [go_sem])
     refine hX ?_
     clear hX hY X Y
     (repeat (first | (refine aw_seq ?_; intro K hK) | refine aw_block ?_ | refine aw_region ?_ | (refine lst_x rfl rfl ?_; intro K1 hK1; simp only [go_sem, hlen, hg, bne_self_eq_false]; (first | refine hK1 _ ?_ | refine andk (hK1 _ ?_)); clear hK1 K1) | ((first | refine lst_nil ?_ | refine aw_skip ?_); refine hK _ ?_; clear hK K)))
     (refine aw_cnd ?_; intro X Y hX hY; simp only [go_sem])
     refine hY ?_
     clear hX hY X Y
     (repeat (first | (refine aw_seq ?_; intro K hK) | refine aw_block ?_ | refine aw_region ?_ | (refine lst_x rfl rfl ?_; intro K1 hK1; simp only [go_sem]; (first | refine hK1 _ ?_ | refine andk (hK1 _ ?_)); clear hK1 K1) | ((first | refine lst_nil ?_ | refine aw_skip ?_); refine hK _ ?_; clear hK K)))
     ((try refine lst_nil ?_); (try refine aw_skip ?_); try simp only [ThenA])
     refine hK _ (s + 1) (by omega) (by omega) ?_
     (refine le_tm ?_; simp only [LeTm, go_sem]; try simp)
    ·have d1 : decide ((s : Int) < (Z.length : Int)) = false := by simpa using hls
     (repeat (first | (refine aw_seq ?_; intro K hK) | refine aw_block ?_ | refine aw_region ?_ | (refine lst_x rfl rfl ?_; intro K1 hK1; simp only [go_sem, hlen, d1]; (first | refine hK1 _ ?_ | refine andk (hK1 _ ?_)); clear hK1 K1) | ((first | refine lst_nil ?_ | refine aw_skip ?_); refine hK _ ?_; clear hK K)))
     (refine aw_cnd ?_; intro X Y hX hY; simp only [go_sem])
     refine hY ?_
     clear hX hY X Y
     (refine aw_exit ?_; simp only [ThenA, InBl, reduceIte, Nat.reduceEqDiff]; (first | refine hK _ ?_ | (clear hK K; refine hK _ ?_) | (clear hK K; clear hK K; refine hK _ ?_) | (clear hK K; clear hK K; clear hK K; refine hK _ ?_) | (clear hK K; clear hK K; clear hK K; clear hK K; refine hK _ ?_) | (clear hK K; clear hK K; clear hK K; clear hK K; clear hK K; refine hK _ ?_)); clear hK K)
     (repeat (first | (refine aw_seq ?_; intro K hK) | refine aw_block ?_ | refine aw_region ?_ | (refine lst_x rfl rfl ?_; intro K1 hK1; simp only [go_sem, hlen, tRows_len, bne_self_eq_false]; (first | refine hK1 _ ?_ | refine andk (hK1 _ ?_)); clear hK1 K1) | ((first | refine lst_nil ?_ | refine aw_skip ?_); refine hK _ ?_; clear hK K)))
     (refine aw_cnd ?_; intro X Y hX hY; simp only [go_sem])
     refine hY ?_
     clear hX hY X Y
     (repeat (first | (refine aw_seq ?_; intro K hK) | refine aw_block ?_ | refine aw_region ?_ | (refine lst_x rfl rfl ?_; intro K1 hK1; simp only [go_sem]; (first | refine hK1 _ ?_ | refine andk (hK1 _ ?_)); clear hK1 K1) | ((first | refine lst_nil ?_ | refine aw_skip ?_); refine hK _ ?_; clear hK K)))
     ((try refine lst_nil ?_); (try refine aw_skip ?_); try simp only [ThenA])
     refine hK _ (k + 1, a1) ⟨by simp only; omega, by simp only; omega⟩ (by simp only; omega) ?_
     refine Le.trans (le_pick [0] rfl rfl) ?_
     (try simp only [List.set_nil, List.take_nil, List.take_zero, List.map_append, go_sem])
     (refine le_tm ?_; simp only [LeTm, go_sem]; try simp)
  ·clear hX hY X Y
   (refine aw_exit ?_; simp only [ThenA, InBl, reduceIte, Nat.reduceEqDiff]; (first | refine hK _ ?_ | (clear hK K; refine hK _ ?_) | (clear hK K; clear hK K; refine hK _ ?_) | (clear hK K; clear hK K; clear hK K; refine hK _ ?_) | (clear hK K; clear hK K; clear hK K; clear hK K; refine hK _ ?_) | (clear hK K; clear hK K; clear hK K; clear hK K; clear hK K; refine hK _ ?_)); clear hK K)
   (repeat (first | (refine aw_seq ?_; intro K hK) | refine aw_block ?_ | refine aw_region ?_ | (refine lst_x rfl rfl ?_; intro K1 hK1; simp only [go_sem]; (first | refine hK1 _ ?_ | refine andk (hK1 _ ?_)); clear hK1 K1) | ((first | refine lst_nil ?_ | refine aw_skip ?_); refine hK _ ?_; clear hK K)))
   (refine lst_cons rfl ?_; intro K1 hK1; refine (stp_call0 (ids := []) (sane27d_fc) rfl rfl (by simp only [go_sem]) (by kernel_rfl) (by (simp only [List.append_nil, go_sem]) <;> rfl) ?_).stp)
   rintro _ _ rfl
   (simp only [aInts, aSets, List.append_nil, List.nil_append, List.length_map, go_sem]; refine hK1 _ ?_; clear hK1 K1)
   (repeat (first | (refine aw_seq ?_; intro K hK) | refine aw_block ?_ | refine aw_region ?_ | (refine lst_x rfl rfl ?_; intro K1 hK1; simp only [go_sem]; (first | refine hK1 _ ?_ | refine andk (hK1 _ ?_)); clear hK1 K1) | ((first | refine lst_nil ?_ | refine aw_skip ?_); refine hK _ ?_; clear hK K)))
   ((try refine aw_ret ?_); (try refine lst_nil ?_); (try simp only [ThenA, InBl]); refine ret_mk (by first | exact .inl rfl | exact .inr rfl) rfl ?_; simp only [rtn, resA, resL, resV, Try.results3, go_sem])
end Go.Proofs.Ytahnebicgbjonaa
