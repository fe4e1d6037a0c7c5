/- Lemmas. -/
import Derived.Test.YthnkailnoobdoaaDoorZk
import Derived.Test.YthnkailnoobdoaaDoorTl3
import Derived.Test.YthnkailnoobdoaaDoorG11
import Derived.Test.YthnkailnoobdoaaDoorG53
import Derived.Test.YthnkailnoobdoaaDoorG12
namespace Go.Proofs.YthnkailnoobdoaaDoor
set_option linter.unusedVariables false
set_option linter.unusedSimpArgs false
open Go.RowKit
set_option maxRecDepth 100000
attribute [local go_sem] lga C.pl C.one

theorem Rx {C : List Int} {k : Nat} (h : k < C.length) {m : Int} : Hr (C.drop k) m = ((!decide (C[k] < 0) && !decide (C[k] > m)) && Hr (C.drop (k + 1)) (WH m C[k])) := by
 rw [List.drop_eq_getElem_cons h, Hr]
theorem Ry {C : List Int} {k : Nat} (h : k < C.length) : WI 0 (C.take (k + 1)) = WH (WI 0 (C.take k)) C[k] := by
 rw [gE8 h, Hq]
theorem SQ (C : List Int) (n : Nat) (hC : C.length <= 9223372036854775807) : FC Tryd.prog 33 [AC C, .i n] [] (fun r o => o = [] /\ r = .b (Ij C n)) := by
 refine Af Tryd.func33 rfl (by rw [Tryd.ntmps33]; simp) ?_
 rw [Tryd.ntmps33]
 simp only [C2, AC]
 (refine UX @A2 ?_;(repeat clear hK K);repeat refine kq fun K hK=>?_)
 refine Ab (fun k : Nat => { tm := [(0, .a (.c (.t 1 (Ad C)))), (1, .i n), (5, .i (WI 0 (C.take k))), (8, .a (.c (.t 1 (Ad C)))), (9, .i C.length), (10, .i k)], hp := [], n := 30, pin := 0 }) (fun k => k <= C.length /\ Hr C 0 = Hr (C.drop k) (WI 0 (C.take k)) /\ 0 <= WI 0 (C.take k) /\ WI 0 (C.take k) <= k) (fun k => C.length - k) 0 ?_ ?_ ?_
 ·exact ⟨by omega, by simp [WI], by simp [WI], by simp [WI]⟩
 ·have e : WI 0 (C.take 0) = 0 := by simp [WI]
  rw [e]
  exact V7
 rintro k ⟨hk, hg, hm0, hmk⟩ K hK
 by_cases hlt : k < C.length
 rotate_left
 ·have d1 : decide ((k : Int) < (C.length : Int)) = false := by simpa using hlt
  have hd : Hr C 0 = true := by rw [hg, List.drop_of_length_le (by omega)]; rfl
  (refine UX @d1 ?_;(repeat clear hK K);repeat refine kq fun K hK=>?_)
  refine V5 ?_
  (refine V0 ?_;repeat clear hK K)
  (refine UX @A2 ?_;(repeat clear hK K);repeat refine kq fun K hK=>?_)
  refine Va Tryd.results33 ?_
  have e : ((C.length : Int) == (n : Int)) = decide (C.length = n) := by rw [Bool.eq_iff_iff, beq_iff_eq, decide_eq_true_iff]; omega
  rw [Ij, hd, Bool.true_and, e]
 have d1 : decide ((k : Int) < (C.length : Int)) = true := by simpa using hlt
 have gc := Ai (gE1 hlt)
 have hs := Rx hlt (m := WI 0 (C.take k))
 have hx := Ry hlt
 generalize C[k] = c at *
 generalize WI 0 (C.take k) = m at *
 rw [hs] at hg
 by_cases h1 : c < 0
 ·have d2 : decide (c < 0) = true := by simpa using h1
  (refine UX @d1 ?_;(repeat clear hK K);repeat refine kq fun K hK=>?_)
  refine V4 ?_
  (refine UX (an @A2 (an @gc @d2)) ?_;(repeat clear hK K);repeat refine kq fun K hK=>?_)
  refine V4 ?_
  (refine UW ?_;(repeat clear hK K);repeat refine kq fun K hK=>?_)
  refine Va Tryd.results33 ?_
  simp [Ij, hg, h1]
 have d2 : decide (c < 0) = false := by simpa using h1
 by_cases h2 : c > m
 ·have d3 : decide (c > m) = true := by simpa using h2
  (refine UX @d1 ?_;(repeat clear hK K);repeat refine kq fun K hK=>?_)
  refine V4 ?_
  (refine UX (an @A2 (an @gc (an @d2 @d3))) ?_;(repeat clear hK K);repeat refine kq fun K hK=>?_)
  refine V4 ?_
  (refine UW ?_;(repeat clear hK K);repeat refine kq fun K hK=>?_)
  refine Va Tryd.results33 ?_
  simp [Ij, hg, h2]
 have d3 : decide (c > m) = false := by simpa using h2
 (refine UX @d1 ?_;(repeat clear hK K);repeat refine kq fun K hK=>?_)
 refine V4 ?_
 (refine UX (an @A2 (an @gc (an @d2 @d3))) ?_;(repeat clear hK K);repeat refine kq fun K hK=>?_)
 refine V5 ?_
 (refine UW ?_;(repeat clear hK K);repeat refine kq fun K hK=>?_)
 refine V6 ?_
 have h3 : 0 <= WH m c /\ WH m c <= m + 1 := by unfold WH; split <;> omega
 refine hK _ (k + 1) ⟨by omega, by rw [hg, hx, d2, d3]; simp, by rw [hx]; omega, by rw [hx]; omega⟩ (by omega) ?_
 have e : (if c + 1 > m then c + 1 else m) = WI 0 (C.take (k + 1)) := by rw [hx]; rfl
 rw [<- e]
 exact V7
theorem SR (C : List Int) (h1 : 0 < C.length) (hC : C.length <= 140737488355328) : FC Tryd.prog 34 [AC C] [] (fun r o => o = [] /\ r = .i (Is C[0] C)) := by
 refine Af Tryd.func34 rfl (by rw [Tryd.ntmps34]; simp) ?_
 rw [Tryd.ntmps34]
 simp only [C2, AC]
 have d0 : decide ((C.length : Int) < 1) = false := by simp; omega
 have g0 : (Ad C)[0]? = some (.v (.int .i64 C[0])) := Ai (gE1 h1)
 (refine UX (an @A2 @d0) ?_;(repeat clear hK K);repeat refine kq fun K hK=>?_)
 refine V5 ?_
 (refine UX (an @A2 (an @g0 @Int.toNat_zero)) ?_;(repeat clear hK K);repeat refine kq fun K hK=>?_)
 refine Ab (fun k : Nat => { tm := [(0, .a (.c (.t 1 (Ad C)))), (3, .i (Is C[0] (C.take k))), (4, .i k)], hp := [], n := 25, pin := 0 }) (fun k => 1 <= k /\ k <= C.length) (fun k => C.length - k) 1 ?_ ?_ ?_
 ·omega
 ·have e : C.take 1 = [C[0]] := by rw [gE8 h1]; rfl
  have e2 : Is C[0] [C[0]] = C[0] := by simp [Is]
  (refine BJ ?_; simp only [DG, go_sem, e, e2]; try simp)
 rintro k ⟨hk1, hk⟩ K hK
 by_cases hlt : k < C.length
 rotate_left
 ·have d1 : decide ((k : Int) < (C.length : Int)) = false := by simpa using hlt
  have he : C.take k = C := gE7 (by omega)
  rw [he]
  (refine UX (an @A2 @d1) ?_;(repeat clear hK K);repeat refine kq fun K hK=>?_)
  refine V5 ?_
  (refine V0 ?_;repeat clear hK K)
  (refine UW ?_;(repeat clear hK K);repeat refine kq fun K hK=>?_)
  exact RH Tryd.results34
 have d1 : decide ((k : Int) < (C.length : Int)) = true := by simpa using hlt
 have g1 := Ai (gE1 hlt)
 (refine UX (an @A2 @d1) ?_;(repeat clear hK K);repeat refine kq fun K hK=>?_)
 refine V4 ?_
 (refine UX (an @A2 @g1) ?_;(repeat clear hK K);repeat refine kq fun K hK=>?_)
 refine V6 ?_
 refine hK _ (k + 1) ⟨by omega, by omega⟩ (by omega) ?_
 have e := gE8 hlt
 (refine BJ ?_; simp only [DG, go_sem, e, MZ]; try simp)
end Go.Proofs.YthnkailnoobdoaaDoor
namespace Go.Proofs.YthnkailnoobdoaaDoor
set_option linter.unusedVariables false
set_option linter.unusedSimpArgs false
open Go.RowKit
set_option maxRecDepth 100000
theorem Nc (a b : Ar) : FC Tryd.prog 57 [.a (.g [.v (.int .i64 a.1), .v (.int .i64 a.2)]), .a (.g [.v (.int .i64 b.1), .v (.int .i64 b.2)])] [] (fun r o => o = [] /\ r = .i (FM a b)) := by
 refine Af Tryd.func57 rfl (by rw [Tryd.ntmps57]; simp) ?_
 rw [Tryd.ntmps57]
 simp only [C2]
 (refine UX (an @List.set_cons_zero.{0} @List.set_cons_succ.{0}) ?_;(repeat clear hK K);repeat refine kq fun K hK=>?_)
 (refine CJ [] [(0, 0, 0), (2, 0, 0), (5, 0, 0), (7, 0, 0), (1, 1, 4), (3, 1, 4), (6, 1, 9), (8, 1, 9), (4, 2, 0), (9, 2, 0), (10, 2, 0), (11, 2, 0), (12, 2, 0)] (by kernel_rfl) (by kernel_rfl) (by intro c st h; simp [Ag, B6, Un] at h) ?_)
 (refine UV ?_; repeat clear hK K)
 (refine UJ rfl rfl ?_; intro K1 hK1; refine BW ?_; refine xv [] (JF a.1 b.1) ?_ ?_)
 ·rintro _ _ ⟨rfl, rfl⟩ i o hi hl; simp at hl
 rintro _ _ ⟨rfl, rfl⟩
 (refine V3 ?_; clear hK1 K1)
 (refine UV ?_; repeat clear hK K)
 (refine UJ rfl rfl ?_; intro K1 hK1; refine BW ?_; refine xv [] (JF a.2 b.2) ?_ ?_)
 ·rintro _ _ ⟨rfl, rfl⟩ i o hi hl; simp at hl
 rintro _ _ ⟨rfl, rfl⟩
 (refine V3 ?_; clear hK1 K1)
 (refine UV ?_; repeat clear hK K)
 (refine UK rfl rfl rfl ?_; intro K1 hK1; refine BF rfl ?_; simp only [go_sem, List.set_cons_zero, List.set_cons_succ]; (first | refine hK1 _ ?_ | refine Aw (hK1 _ ?_)); clear hK1 K1)
 (refine TD (C8 (r := ⟨3, 1, true, A7 [F4 a.1 b.1, F4 a.2 b.2]⟩) 2 (Ad [F4 a.1 b.1, F4 a.2 b.2]) rfl (KO _) (show 0 < (1 : Nat) by omega)) ?_; simp only [ST.frz, A0.frz, AV.frz, C.frz, Nat.le_refl, List.set_cons_zero, List.set_cons_succ, go_sem, A2, AJ, List.length_cons, List.length_nil, List.take_succ_cons, List.take_zero])
 (refine UV ?_; repeat clear hK K)
 (refine UJ rfl rfl ?_; intro K1 hK1; refine BW ?_; refine BV (ids := []) [] (JK [F4 a.1 b.1, F4 a.2 b.2] (by simp)) rfl rfl (by simp only [go_sem]) (by kernel_rfl) rfl rfl rfl (by (simp only [List.map_append, List.append_nil, go_sem]) <;> rfl) (by (simp only [Um, AC, go_sem]) <;> rfl) ?_ ?_)
 ·rintro _ _ ⟨rfl, rfl⟩ i o hi hl; simp at hl
 rintro _ _ ⟨rfl, rfl⟩
 (refine V3 ?_; clear hK1 K1)
 (refine UK rfl rfl rfl ?_; intro K1 hK1; refine BF rfl ?_; simp only [go_sem]; (first | refine hK1 _ ?_ | refine Aw (hK1 _ ?_)); clear hK1 K1)
 (refine UV ?_; repeat clear hK K)
 refine V8 [] Tryd.results57 ?_
 rw [M3]
attribute [local go_sem] lga C.pl C.one
theorem Nd (R : List (List Ar)) : ∀ (f i : Nat) (num old : List Int) (out : List (List Ar)), ∃ l, (BE R f i num old out).1 = out ++ l := by
 intro f
 induction f with
 | zero => intro i num old out; exact ⟨[], by simp [BE]⟩
 | succ f ih =>
  intro i num old out
  unfold BE
  split
  ·exact ⟨[], by simp⟩
  obtain ⟨l, hl⟩ := ih (i + 1) (D4 (Bj (R.getD (Int.toNat ‹_›) [])) num old []).1 (D4 (Bj (R.getD (Int.toNat ‹_›) [])) num old []).2.1 (out ++ [(D4 (Bj (R.getD (Int.toNat ‹_›) [])) num old []).2.2])
  exact ⟨_ :: l, by rw [hl, List.append_assoc]; rfl⟩
theorem Kn (x y : List (List Ar)) : AA (x ++ y) = AA x + AA y := by simp [AA]
theorem Pe (r : List Ar) : AA [r] = r.length := by simp [AA]
def WP (q : List (List Ar)) (r : AV) (o : List Ob) : Prop :=
 if AA q <= 262144 then o = [.r ⟨27, 1, false, [.t 1 (Ao q)]⟩] /\ r = .tup [.g [.t 1 (Ao q)], .c (.v (.bool true))]
 else o = [.r ⟨27, 1, false, [.v (.slice none 0 0)]⟩] /\ r = .tup [.g [.v (.slice none 0 0)], .c (.v (.bool false))]
set_option maxHeartbeats 8000000 in
theorem Nf (R : List (List Ar)) (h1 : 1 <= R.length) (hbd : ∀ r ∈ R, ∀ a ∈ r, 0 <= a.2 /\ a.2 < (R.length : Int)) (hn : R.length <= 1000000) (hr : ∀ r ∈ R, r.length <= 1000000) : FC Tryd.prog 35 [.a (.c (.t 1 (Ao R)))] [] (WP (AG R).1) := by
 refine Af Tryd.func35 rfl (by rw [Tryd.ntmps35]; simp) ?_
 rw [Tryd.ntmps35]
 simp only [C2]
 (refine UX @Ac ?_;(repeat clear hK K);repeat refine kq fun K hK=>?_)
 (refine Aa rfl ?_; intro K1 hK1; refine Av (ids := []) [1] (FQ (-1) R.length h1 hn) rfl rfl (by simp only [go_sem]) (by first | assumption | kernel_rfl) rfl rfl (by (simp only [List.map_append, List.append_nil, go_sem]) <;> rfl) (by (simp only [Um, Al, A7, go_sem]) <;> rfl) ?_ ?_)
 ·rintro _ _ ⟨rfl, rfl⟩; rfl
 rintro _ _ ⟨rfl, rfl⟩
 (simp only [AC, BS, Al, Cx, List.append_nil, List.nil_append, List.length_map, go_sem]; refine hK1 _ ?_; clear hK1 K1)
 have g0 : 0 < (List.replicate R.length (-1 : Int)).length := by simp; omega
 (refine D1 (an @A4 (an @List.length_replicate.{0} @Bc)) ?_;(repeat clear hK K);repeat refine kq fun K hK=>?_)
 refine AO (PJ 38 1) ?_
 simp only [List.cons_append, List.nil_append]
 refine AO (Mu 4 0 5 (by decide) rfl rfl rfl) ?_
 simp only [List.set_cons_zero, List.set_cons_succ]
 refine AO (Ae [0, 2, 3, 4, 5] rfl rfl) ?_
 (try simp only [List.set_nil, List.take_nil, List.take_zero, List.map_append, go_sem])
 (try simp only [Ak])
 refine Ab (fun x : Nat × List Int × List Int × List (List Ar) => { tm := [(0, .a (.c (.t 1 (Ao R)))), (2, .a (.c (.p 0 0))), (4, .a (.c (.s 1 R.length))), (5, .a (.c (.s 2 x.2.2.1.length))), (6, .i (AA x.2.2.2)), (7, .a (.c (.p 3 0))), (8, .i x.1)], hp := [.r ⟨27, 1, false, [.v (.slice none 0 0)]⟩, .r ⟨3, 1, true, A7 x.2.1⟩, .r ⟨3, 1, true, A7 x.2.2.1⟩, .r ⟨27, 1, false, [.s 4 x.1]⟩, .r ⟨38, 1, true, Bm x.2.2.2⟩], n := 87, pin := 0 }) (fun x => NumOk R.length x.2.1 x.2.2.1 /\ NumInj x.2.1 x.2.2.1 /\ BE R (R.length - x.1) x.1 x.2.1 x.2.2.1 x.2.2.2 = AG R /\ x.1 <= x.2.2.1.length /\ x.2.2.2.length = x.1 /\ AA x.2.2.2 <= 262144) (fun x => R.length - x.1) (0, (List.replicate R.length (-1)).set 0 0, [0], []) ?_ ?_ ?_
 ·exact ⟨NumOk.start h1, NumInj.start h1, rfl, by simp, rfl, by simp [AA]⟩
 ·simp only [AA, List.map_nil, List.sum_nil]
  exact V7
 rintro ⟨i, num, old, out⟩ ⟨hN, hI, hC, hio, hoi, hto⟩ K hK
 simp only at hN hI hC hio hoi hto
 have hlen := hN.len
 have hle := hN.le
 by_cases hlt : i < old.length
 rotate_left
 ·have d1 : decide ((i : Int) < (old.length : Int)) = false := by simpa using hlt
  have hfin : AG R = (out, old) := by rw [<- hC]; exact KJ (by omega)
  (refine UX (an @d1 @A4) ?_;(repeat clear hK K);repeat refine kq fun K hK=>?_)
  refine V5 ?_
  (refine V0 ?_;repeat clear hK K)
  refine AO (Be (r := ⟨38, 1, true, Bm out⟩) (ri := ⟨27, 1, false, [.s 4 i]⟩) (ts := Ao out) 3 0 4 i (by decide) rfl rfl rfl rfl (show 0 < 1 by omega) (by simp only [Bw, hoi]; omega) (KH _)) ?_
  simp only [go_sem]
  refine AO (FB 3 rfl) ?_
  simp only [Ur, go_sem]
  (refine Pv ?_;(repeat clear hK K);repeat refine kq fun K hK=>?_)
  refine V8 [0] Tryd.results35 ?_
  rw [hfin]
  unfold WP
  rw [if_pos hto]
  exact ⟨rfl, rfl⟩
 have d1 : decide ((i : Int) < (old.length : Int)) = true := by simpa using hlt
 have hs0 := hN.st _ (gE6 hlt)
 obtain ⟨sn, hsn⟩ : ∃ sn : Nat, old[i] = sn := ⟨old[i].toNat, by omega⟩
 have hsl : sn < R.length := by omega
 have go : (A7 old)[i]? = some (.v (.int .i64 sn)) := by rw [<- hsn]; exact Aq (gE1 hlt)
 have hgR := gE1 hsl
 have hrl := hr _ (gE6 hsl)
 have hst := KK (rows := R) (n := R.length) (i := i) (num := num) (old := old) (out := out) (s := (sn : Int)) (r := R[sn]) (by omega) (by rw [gE1 hlt, hsn]) (by simp [hgR]) rfl
 generalize hrr : R[sn] = r at *
 have hcl := Gy (Au r) (by rw [A3]; omega)
 rw [JR, A3, AK] at hcl
 (refine UX (an @d1 @A4) ?_;(repeat clear hK K);repeat refine kq fun K hK=>?_)
 refine V4 ?_
 (refine UX (an @Ac (an (Bl hgR) (an @A4 @go))) ?_;(repeat clear hK K);repeat refine kq fun K hK=>?_)
 (refine V1 hcl ?_; intro K1 hK1)
 rintro _ _ ⟨rfl, rfl⟩
 (simp only [AC, BS, Co, List.append_nil, List.nil_append, List.length_map, go_sem]; refine hK1 _ ?_; clear hK1 K1)
 (refine UW ?_;(repeat clear hK K);repeat refine kq fun K hK=>?_)
 (refine Aa rfl ?_; intro K1 hK1; refine Av (ids := []) [5] (JQ 57 (by kernel_rfl) Nc r (by omega)) rfl rfl (by simp only [go_sem]) (by first | assumption | kernel_rfl) rfl rfl (by (simp only [List.map_append, List.append_nil, go_sem]) <;> rfl) (by (simp only [Um, CM, go_sem]) <;> rfl) ?_ ?_)
 ·rintro _ _ ⟨rfl, L', _, _, rfl⟩; rfl
 rintro _ _ ⟨rfl, L', hperm, hsort, rfl⟩
 (simp only [AC, BS, Co, List.append_nil, List.nil_append, List.length_map, go_sem]; refine hK1 _ ?_; clear hK1 K1)
 have hLl := hperm.length_eq
 have hq : KS L' = Bj r := by rw [Mc]; exact LT hperm hsort
 rw [<- hLl]
 (refine UW ?_;(repeat clear hK K);repeat refine kq fun K hK=>?_)
 (refine Aa rfl ?_; intro K1 hK1; refine Av (ids := []) [5] (I5 L' (by omega)) rfl rfl (by simp only [go_sem]) (by first | assumption | kernel_rfl) rfl rfl (by (simp only [List.map_append, List.append_nil, go_sem]) <;> rfl) (by (simp only [Um, CM, go_sem]) <;> rfl) ?_ ?_)
 ·rintro _ _ ⟨rfl, rest, us, _, _, rfl⟩; rfl
 rintro _ _ ⟨rfl, rest, us, hrest, hr0, rfl⟩
 (simp only [AC, BS, Co, List.append_nil, List.nil_append, List.length_map, go_sem]; refine hK1 _ ?_; clear hK1 K1)
 (refine UW ?_;(repeat clear hK K);repeat refine kq fun K hK=>?_)
 obtain ⟨q, hqd⟩ : ∃ q, q = Bj r := ⟨_, rfl⟩
 rw [<- hqd] at hq hst
 have hqs : SortA q := by rw [hqd]; exact Ay r
 have hql : q.length <= 1000000 := by rw [hqd]; exact Nat.le_trans (FN r) (by omega)
 have hqb : ∀ a ∈ q, 0 <= a.2 /\ a.2 < (R.length : Int) := fun a ha => by
  rw [hqd, B0] at ha
  exact hbd r (by rw [<- hrr]; exact gE6 hsl) a ha
 rw [hq]
 refine AO (Qr 5 (q.length * 2) rfl ?_) ?_
 ·intro _ h
  rw [JS _ _ _ (Co _ _)] at h
  have hq0 : q = [] := by
   have := congrArg List.length h
   rw [Aj] at this
   exact List.length_eq_zero_iff.1 (by simp at this; omega)
  have hL0 : L' = [] := by
   cases L' with
   | nil => rfl
   | cons x xs =>
    have : KS (x :: xs) = [] := by rw [hq, hq0]
    simp [KS] at this
  rw [hr0 hL0, hq0]; rfl
 simp only [JS _ _ _ (Co _ _), go_sem]
 refine Ab (fun x : Nat × List Int × List Int × List Ar => { tm := [(0, .a (.c (.t 1 (Ao R)))), (2, .a (.c (.p 0 0))), (4, .a (.c (.s 1 R.length))), (5, .a (.c (.s 2 x.2.2.1.length))), (6, .i (AA out)), (7, .a (.c (.p 3 0))), (8, .i i), (9, .a (.c (.s 5 q.length))), (37, .a (.c (.s 5 q.length))), (38, .i q.length), (39, .i x.1)], hp := [.r ⟨27, 1, false, [.v (.slice none 0 0)]⟩, .r ⟨3, 1, true, A7 x.2.1⟩, .r ⟨3, 1, true, A7 x.2.2.1⟩, .r ⟨27, 1, false, [.s 4 i]⟩, .r ⟨38, 1, true, Bm out⟩, .r ⟨37, 2, true, Am x.2.2.2⟩], n := 87, pin := 0 }) (fun x => x.1 <= q.length /\ x.2.2.2.length = q.length /\ NumOk R.length x.2.1 x.2.2.1 /\ old.length <= x.2.2.1.length /\ NL (Ck q num old) x.2.2.2 q x.1 x.2.1 x.2.2.1) (fun x => q.length - x.1) (0, num, old, q) ?_ ?_ ?_
 ·exact ⟨by simp, rfl, hN, Nat.le_refl _, NL.start q num old⟩
 ·exact V7
 rintro ⟨k, num1, old1, ya⟩ ⟨hk, hyl, hN1, hol, hNL⟩ K hK
 simp only at hk hyl hN1 hol hNL
 have hlen1 := hN1.len
 have hle1 := hN1.le
 by_cases hlt2 : k < q.length
 rotate_left
 ·have d2 : decide ((k : Int) < (q.length : Int)) = false := by simpa using hlt2
  obtain ⟨f1, f2, f3⟩ := hNL.fin (by omega) hyl
  have hnd : ya.Nodup := by rw [f1]; exact KN q hqs (fun a ha => by rw [hlen]; exact hqb a ha) hI
  have hI2 : NumInj num1 old1 := by rw [f2, f3]; exact Fe q (fun a ha => by rw [hlen]; exact hqb a ha) hI
  (refine UX @d2 ?_;(repeat clear hK K);repeat refine kq fun K hK=>?_)
  refine V5 ?_
  (refine V0 ?_;repeat clear hK K)
  rw [<- hyl]
  (refine UW ?_;(repeat clear hK K);repeat refine kq fun K hK=>?_)
  (refine Aa rfl ?_; intro K1 hK1; refine Av (ids := []) [5] (JQ 57 (by kernel_rfl) Nc ya (by omega)) rfl rfl (by simp only [go_sem]) (by first | assumption | kernel_rfl) rfl rfl (by (simp only [List.map_append, List.append_nil, go_sem]) <;> rfl) (by (simp only [Um, CM, go_sem]) <;> rfl) ?_ ?_)
  ·rintro _ _ ⟨rfl, L2, _, _, rfl⟩; rfl
  rintro _ _ ⟨rfl, L2, hp2, hs2, rfl⟩
  (simp only [AC, BS, Co, List.append_nil, List.nil_append, List.length_map, go_sem]; refine hK1 _ ?_; clear hK1 K1)
  have hL2 : L2 = Bj ya := KM hnd hp2 hs2
  have hL2l := hp2.length_eq
  rw [<- hL2l]
  (refine EV (C8 (r := ⟨37, 2, true, Am L2⟩) 5 (Au L2) rfl (F3 _) (show 0 < (2 : Nat) by omega)) ?_; simp only [ST.frz, A0.frz, AV.frz, C.frz, Nat.le_refl, List.set_cons_zero, List.set_cons_succ, go_sem, A3, AK, Bp, List.take_length])
  have htt : AA (out ++ [L2]) = AA out + L2.length := by rw [Kn, Pe]
  have hCn : BE R (R.length - (i + 1)) (i + 1) num1 old1 (out ++ [L2]) = AG R := by
   rw [<- hC, hst, EA, f2, f3, hL2, f1]
   rfl
  by_cases htb : AA (out ++ [L2]) > 262144
  ·have d5 : decide ((AA out : Int) + (L2.length : Int) > 262144) = true := gEg (by omega)
   (refine UX (an @A3 (an @AK @d5)) ?_;(repeat clear hK K);repeat refine kq fun K hK=>?_)
   refine V4 ?_
   (refine Pv ?_;(repeat clear hK K);repeat refine kq fun K hK=>?_)
   refine V8 [0] Tryd.results35 ?_
   obtain ⟨l, hl⟩ := Nd R (R.length - (i + 1)) (i + 1) num1 old1 (out ++ [L2])
   rw [hCn] at hl
   unfold WP
   rw [if_neg (by rw [hl, Kn]; omega)]
   exact ⟨rfl, rfl⟩
  have d5 : decide ((AA out : Int) + (L2.length : Int) > 262144) = false := decide_eq_false (by omega)
  have crp := KU out L2 hoi
  have ett : (AA out : Int) + (L2.length : Int) = (AA (out ++ [L2]) : Int) := by omega
  (refine UX (an @A3 (an @AK @d5)) ?_;(repeat clear hK K);repeat refine kq fun K hK=>?_)
  refine V5 ?_
  (refine D1 (an @crp (an @Bw @hoi)) ?_;(repeat clear hK K);repeat refine kq fun K hK=>?_)
  refine V6 ?_
  refine hK _ (i + 1, num1, old1, out ++ [L2]) ⟨hN1, hI2, hCn, by simp only; omega, by simp [hoi], by simp only; omega⟩ (by simp only; omega) ?_
  refine Le.trans (Ae [0, 1, 2, 3, 7] rfl rfl) ?_
  (try simp only [List.set_nil, List.take_nil, List.take_zero, List.map_append, go_sem])
  (try simp only [Ak, Dg, ett])
  exact V7
 have d2 : decide ((k : Int) < (q.length : Int)) = true := by simpa using hlt2
 have hky : k < ya.length := by omega
 have hyq : ya[k] = q[k] := by
  have := congrArg (fun l => l[0]?) hNL.2.2.2
  simp only [List.getElem?_drop, Nat.add_zero] at this
  rw [gE1 hky, gE1 hlt2] at this
  exact Option.some.inj this
 have hyb := hqb _ (gE6 hlt2)
 rw [<- hyq] at hyb
 obtain ⟨e, tn, hya⟩ : ∃ (e : Int) (tn : Nat), ya[k] = (e, (tn : Int)) := ⟨ya[k].1, ya[k].2.toNat, by
  have : (ya[k].2.toNat : Int) = ya[k].2 := by omega
  rw [this]⟩
 have hyk : ya[k]? = some (e, (tn : Int)) := by rw [gE1 hky, hya]
 have htl : tn < R.length := by rw [hya] at hyb; have := hyb.2; simp only at this; omega
 have hat := DA hky
 rw [hya] at hat
 have gn : (A7 num1)[tn]? = some (.v (.int .i64 num1[tn])) := Aq (gE1 (by omega))
 have gn2 : num1[tn]? = some num1[tn] := gE1 (by omega)
 (refine UX @d2 ?_;(repeat clear hK K);repeat refine kq fun K hK=>?_)
 refine V4 ?_
 by_cases hx : num1[tn] < 0
 rotate_left
 ·have d3 : decide (num1[tn] < 0) = false := by simpa using hx
  have cs := EE hyk num1[tn]
  (refine D1 (an @hat (an @Aj (an @hyl (an @gn (an @d3 (an @A4 @hlen1)))))) ?_;(repeat clear hK K);repeat refine kq fun K hK=>?_)
  refine V5 ?_
  (refine D1 (an @gn (an @cs (an @Aj (an @hyl (an @A4 @hlen1))))) ?_;(repeat clear hK K);repeat refine kq fun K hK=>?_)
  refine V6 ?_
  refine hK _ (k + 1, num1, old1, ya.set k (e, num1[tn])) ⟨hlt2, by simp [hyl], hN1, hol, hNL.pos hyk gn2 hx⟩ (by simp only; omega) ?_
  refine Le.trans (Ae [0, 1, 2, 3, 4, 5] rfl rfl) ?_
  (try simp only [List.set_nil, List.take_nil, List.take_zero, List.map_append, go_sem])
  (try simp only [Ak, CM, Dg])
  exact V7
 have d3 : decide (num1[tn] < 0) = true := by simpa using hx
 have gs : (A7 (num1.set tn (old1.length : Int)))[tn]? = some (.v (.int .i64 (old1.length : Int))) := Aq (gEc (by omega))
 have op := Oc old1 (tn : Int)
 have cs := EE hyk (old1.length : Int)
 (refine D1 (an @hat (an @Aj (an @hyl (an @gn (an @d3 (an @A4 @hlen1)))))) ?_;(repeat clear hK K);repeat refine kq fun K hK=>?_)
 refine V4 ?_
 (refine D1 (an @A4 (an @hlen1 (an @Bc (an @op (an @gs (an @cs (an @Aj (an @hyl @List.length_set.{0})))))))) ?_;(repeat clear hK K);repeat refine kq fun K hK=>?_)
 refine V6 ?_
 have hone : AF num1 old1 (tn : Int) = (num1.set tn (old1.length : Int), old1 ++ [(tn : Int)]) := by
  simp only [AF, Int.toNat_natCast, List.getD, gn2, Option.getD_some, if_pos hx]
 have hN2 := hN1.one (t := (tn : Int)) (by omega) (by omega)
 rw [hone] at hN2
 refine hK _ (k + 1, num1.set tn (old1.length : Int), old1 ++ [(tn : Int)], ya.set k (e, (old1.length : Int))) ⟨hlt2, by simp [hyl], hN2, by simp; omega, hNL.neg hyk gn2 hx rfl⟩ (by simp only; omega) ?_
 refine Le.trans (Ae [0, 1, 8, 3, 4, 5] rfl rfl) ?_
 (try simp only [List.set_nil, List.take_nil, List.take_zero, List.map_append, go_sem])
 (try simp only [Ak, CM, Dg])
 simp only [List.length_append, List.length_cons, List.length_nil]
 exact V7
end Go.Proofs.YthnkailnoobdoaaDoor
