/- Lemmas. -/
import Derived.Test.YthnkailnoobdoaaDoorG45
import Derived.Test.YthnkailnoobdoaaDoorMG
import Derived.Test.YthnkailnoobdoaaDoorG12
import Derived.Test.YthnkailnoobdoaaDoorG42
import Derived.Test.YthnkailnoobdoaaDoorTl3
import Derived.Test.YthnkailnoobdoaaDoorZk
namespace Go.Proofs.YthnkailnoobdoaaDoor
set_option linter.unusedVariables false
set_option linter.unusedSimpArgs false
open Go.RowKit
set_option maxRecDepth 100000
attribute [local go_sem] lga C.pl C.one

theorem C7 (L : List C) (s : Nat) (x y : C) : (L.set s x).set s y = L.set s y := by simp
theorem N5 (x y : Operand) (a : Ar) : Gi Tryd.prog .neq 37 x y [.int .i64 a.1, .int .i64 a.2] [.int .i64 a.1, .int .i64 a.2] false = True := by
 have h := Mb x y a a
 rw [gEg (rfl : a = a)] at h
 exact h
theorem L8 (r : List Ar) (hn : r.length <= 1000000) : FC Tryd.prog 29 [.a (.c (.t 2 (Au r))), .a (.c (.t 2 (Au r)))] [] (fun x o => o = [] /\ x = .b true) := by
 refine Af Tryd.func29 rfl (by rw [Tryd.ntmps29]; simp) ?_
 rw [Tryd.ntmps29]
 simp only [C2]
 have d0 : ((r.length : Int) != (r.length : Int)) = false := by simp
 (refine UX (an @A3 (an @AK @d0)) ?_;(repeat clear hK K);repeat refine kq fun K hK=>?_)
 refine V5 ?_
 (refine UW ?_;(repeat clear hK K);repeat refine kq fun K hK=>?_)
 refine Ab (fun k : Nat => { tm := [(0, .a (.c (.t 2 (Au r)))), (1, .a (.c (.t 2 (Au r)))), (5, .i k)], hp := [], n := 26, pin := 0 }) (fun k => k <= r.length) (fun k => r.length - k) 0 ?_ ?_ ?_
 ·omega
 ·exact V7
 rintro k hk K hK
 by_cases hlt : k < r.length
 rotate_left
 ·have d1 : decide ((k : Int) < (r.length : Int)) = false := by simpa using hlt
  (refine UX (an @d1 (an @A3 @AK)) ?_;(repeat clear hK K);repeat refine kq fun K hK=>?_)
  refine V5 ?_
  (refine V0 ?_;repeat clear hK K)
  (refine UW ?_;(repeat clear hK K);repeat refine kq fun K hK=>?_)
  exact Th [] Tryd.results29
 have d1 : decide ((k : Int) < (r.length : Int)) = true := by simpa using hlt
 have hat := Bi hlt
 have d2 : (!decide (r[k] = r[k])) = false := by simp
 (refine UX (an @d1 (an @A3 @AK)) ?_;(repeat clear hK K);repeat refine kq fun K hK=>?_)
 refine V4 ?_
 (refine UW ?_;(repeat clear hK K);repeat refine kq fun K hK=>?_)
 (refine Ap 8 [(0, 0), (1, 0), (2, 0), (3, 1), (4, 0), (5, 0), (6, 0), (7, 1), (8, 2)] (by kernel_rfl) (by kernel_rfl) (by intro c st h; simp [Ag, B6, Un] at h) ?_)
 (repeat (first | ((first | refine RE rfl rfl rfl ?_ | refine RF rfl rfl rfl ?_); intro K1 hK1; simp only [go_sem, hat, A3, AK, N5, DU, decide_true, Bool.not_true, beq_self_eq_true, Bool.and_self, true_and]; (first | refine hK1 _ ?_ | refine Aw (hK1 _ ?_)); clear hK1 K1) | (refine RG rfl rfl rfl rfl ?_; intro K1 hK1; simp only [go_sem, hat, A3, AK, N5, DU, decide_true, Bool.not_true, beq_self_eq_true, Bool.and_self, true_and]; (first | refine hK1 _ ?_ | refine Aw (hK1 _ ?_)); clear hK1 K1) | (refine HO ?_; refine hK _ ?_; clear hK K)))
 refine V5 ?_
 (refine UW ?_;(repeat clear hK K);repeat refine kq fun K hK=>?_)
 refine V6 ?_
 refine hK _ (k + 1) (by omega) (by omega) ?_
 exact V7
theorem Ru (R : List (List Ar)) (hn : R.length <= 1000000) (hr : ∀ r ∈ R, r.length <= 1000000) : FC Tryd.prog 13 [CC R, CC R] [] (fun x o => o = [] /\ x = .b true) := by
 refine Af Tryd.func13 rfl (by rw [Tryd.ntmps13]; simp) ?_
 rw [Tryd.ntmps13]
 simp only [C2, CC]
 have d0 : ((R.length : Int) != (R.length : Int)) = false := by simp
 (refine UX (an @Ac @d0) ?_;(repeat clear hK K);repeat refine kq fun K hK=>?_)
 refine V5 ?_
 (refine UW ?_;(repeat clear hK K);repeat refine kq fun K hK=>?_)
 refine Ab (fun k : Nat => { tm := [(2, .a (.c (.p 0 0))), (3, .a (.c (.p 1 0))), (5, .i k)], hp := [.r ⟨27, 1, false, [.t 1 (Ao R)]⟩, .r ⟨27, 1, false, [.t 1 (Ao R)]⟩], n := 32, pin := 0 }) (fun k => k <= R.length) (fun k => R.length - k) 0 ?_ ?_ ?_
 ·omega
 ·exact V7
 rintro k hk K hK
 by_cases hlt : k < R.length
 rotate_left
 ·have d1 : decide ((k : Int) < (R.length : Int)) = false := by simpa using hlt
  (refine UX (an @d1 @Ac) ?_;(repeat clear hK K);repeat refine kq fun K hK=>?_)
  refine V5 ?_
  (refine V0 ?_;repeat clear hK K)
  (refine UW ?_;(repeat clear hK K);repeat refine kq fun K hK=>?_)
  exact Th [] Tryd.results13
 have d1 : decide ((k : Int) < (R.length : Int)) = true := by simpa using hlt
 have hg := gE1 hlt
 (refine UX (an @d1 @Ac) ?_;(repeat clear hK K);repeat refine kq fun K hK=>?_)
 refine V4 ?_
 (refine UW ?_;(repeat clear hK K);repeat refine kq fun K hK=>?_)
 (refine Ap 10 [(0, 0), (1, 1), (2, 0), (3, 0), (4, 1), (5, 0), (6, 1), (7, 0), (8, 0), (9, 1), (10, 2), (11, 0)] (by kernel_rfl) (by kernel_rfl) (by intro c st h; simp [Ag, B6, Un] at h) ?_)
 (refine UU (an @Ac (Bl hg)) ?_; repeat clear hK K)
 (refine TF (L8 R[k] (hr _ (gE6 hlt))) ?_; intro K1 hK1)
 rintro _ _ ⟨rfl, rfl⟩
 (refine V3 ?_; clear hK1 K1)
 (refine UU @Bool.not_true ?_; repeat clear hK K)
 refine V5 ?_
 (refine UW ?_;(repeat clear hK K);repeat refine kq fun K hK=>?_)
 refine V6 ?_
 refine hK _ (k + 1) (by omega) (by omega) ?_
 exact V7
end Go.Proofs.YthnkailnoobdoaaDoor
