/- Lemmas. -/
import Derived.Test.YthnkailnoobdoaaGreatDoorG45
import Derived.Test.YthnkailnoobdoaaGreatDoorMG
import Derived.Test.YthnkailnoobdoaaGreatDoorMnt
import Derived.Test.YthnkailnoobdoaaGreatDoorG42
import Derived.Test.YthnkailnoobdoaaGreatDoorTl3
import Derived.Test.YthnkailnoobdoaaGreatDoorZk
namespace Go.Proofs.YthnkailnoobdoaaGreatDoor
set_option linter.unusedVariables false
set_option linter.unusedSimpArgs false
open Go.RowKit
set_option maxRecDepth 100000
attribute [local go_sem] lga C.pl C.one

theorem Cl (L : List C) (s : Nat) (x y : C) : (L.set s x).set s y = L.set s y := by simp
theorem Om (x y : Operand) (a : Ar) : GH Tryz.prog .neq 40 x y [.int .i64 a.1, .int .i64 a.2] [.int .i64 a.1, .int .i64 a.2] false = True := by
 have h := N2 x y a a
 rw [gEg (rfl : a = a)] at h
 exact h
theorem LX (r : List Ar) (hn : r.length <= 1000000) : FC Tryz.prog 54 [.a (.c (.t 2 (At r))), .a (.c (.t 2 (At r)))] [] (fun x o => o = [] /\ x = .b true) := by
 refine A9 Tryz.func54 rfl (by rw [Tryz.ntmps54]; simp) ?_
 rw [Tryz.ntmps54]
 simp only [Bz]
 have d0 : ((r.length : Int) != (r.length : Int)) = false := by simp
 (refine Wf (an @A3 (an @Al @d0)) ?_;(repeat clear hK K);repeat refine kq fun K hK=>?_)
 refine Wm ?_
 (refine We ?_;(repeat clear hK K);repeat refine kq fun K hK=>?_)
 refine A6 (fun k : Nat => { tm := [(0, .a (.c (.t 2 (At r)))), (1, .a (.c (.t 2 (At r)))), (5, .i k)], hp := [], n := 26, pin := 0 }) (fun k => k <= r.length) (fun k => r.length - k) 0 ?_ ?_ ?_
 ·omega
 ·exact Wo
 rintro k hk K hK
 by_cases hlt : k < r.length
 rotate_left
 ·have d1 : decide ((k : Int) < (r.length : Int)) = false := by simpa using hlt
  (refine Wf (an @d1 (an @A3 @Al)) ?_;(repeat clear hK K);repeat refine kq fun K hK=>?_)
  refine Wm ?_
  (refine Wi ?_;repeat clear hK K)
  (refine We ?_;(repeat clear hK K);repeat refine kq fun K hK=>?_)
  exact T2 [] Tryz.results54
 have d1 : decide ((k : Int) < (r.length : Int)) = true := by simpa using hlt
 have hat := Be hlt
 have d2 : (!decide (r[k] = r[k])) = false := by simp
 (refine Wf (an @d1 (an @A3 @Al)) ?_;(repeat clear hK K);repeat refine kq fun K hK=>?_)
 refine Wl ?_
 (refine We ?_;(repeat clear hK K);repeat refine kq fun K hK=>?_)
 (refine Ao 8 [(0, 0), (1, 0), (2, 0), (3, 1), (4, 0), (5, 0), (6, 0), (7, 1), (8, 2)] (by kernel_rfl) (by kernel_rfl) (by intro c st h; simp [Ae, AJ, VD] at h) ?_)
 (repeat (first | ((first | refine SX rfl rfl rfl ?_ | refine SY rfl rfl rfl ?_); intro K1 hK1; simp only [go_sem, hat, A3, Al, Om, Ef, decide_true, Bool.not_true, beq_self_eq_true, Bool.and_self, true_and]; (first | refine hK1 _ ?_ | refine AE (hK1 _ ?_)); clear hK1 K1) | (refine SZ rfl rfl rfl rfl ?_; intro K1 hK1; simp only [go_sem, hat, A3, Al, Om, Ef, decide_true, Bool.not_true, beq_self_eq_true, Bool.and_self, true_and]; (first | refine hK1 _ ?_ | refine AE (hK1 _ ?_)); clear hK1 K1) | (refine Ie ?_; refine hK _ ?_; clear hK K)))
 refine Wm ?_
 (refine We ?_;(repeat clear hK K);repeat refine kq fun K hK=>?_)
 refine Wn ?_
 refine hK _ (k + 1) (by omega) (by omega) ?_
 exact Wo
theorem SM (R : List (List Ar)) (hn : R.length <= 1000000) (hr : ∀ r ∈ R, r.length <= 1000000) : FC Tryz.prog 33 [Bh R, Bh R] [] (fun x o => o = [] /\ x = .b true) := by
 refine A9 Tryz.func33 rfl (by rw [Tryz.ntmps33]; simp) ?_
 rw [Tryz.ntmps33]
 simp only [Bz, Bh]
 have d0 : ((R.length : Int) != (R.length : Int)) = false := by simp
 (refine Wf (an @A4 @d0) ?_;(repeat clear hK K);repeat refine kq fun K hK=>?_)
 refine Wm ?_
 (refine We ?_;(repeat clear hK K);repeat refine kq fun K hK=>?_)
 refine A6 (fun k : Nat => { tm := [(2, .a (.c (.p 0 0))), (3, .a (.c (.p 1 0))), (5, .i k)], hp := [.r ⟨25, 1, false, [.t 1 (Ai R)]⟩, .r ⟨25, 1, false, [.t 1 (Ai R)]⟩], n := 32, pin := 0 }) (fun k => k <= R.length) (fun k => R.length - k) 0 ?_ ?_ ?_
 ·omega
 ·exact Wo
 rintro k hk K hK
 by_cases hlt : k < R.length
 rotate_left
 ·have d1 : decide ((k : Int) < (R.length : Int)) = false := by simpa using hlt
  (refine Wf (an @d1 @A4) ?_;(repeat clear hK K);repeat refine kq fun K hK=>?_)
  refine Wm ?_
  (refine Wi ?_;repeat clear hK K)
  (refine We ?_;(repeat clear hK K);repeat refine kq fun K hK=>?_)
  exact T2 [] Tryz.results33
 have d1 : decide ((k : Int) < (R.length : Int)) = true := by simpa using hlt
 have hg := gE1 hlt
 (refine Wf (an @d1 @A4) ?_;(repeat clear hK K);repeat refine kq fun K hK=>?_)
 refine Wl ?_
 (refine We ?_;(repeat clear hK K);repeat refine kq fun K hK=>?_)
 (refine Ao 10 [(0, 0), (1, 1), (2, 0), (3, 0), (4, 1), (5, 0), (6, 1), (7, 0), (8, 0), (9, 1), (10, 2), (11, 0)] (by kernel_rfl) (by kernel_rfl) (by intro c st h; simp [Ae, AJ, VD] at h) ?_)
 (refine Wb (an @A4 (Ac hg)) ?_; repeat clear hK K)
 (refine T1 (LX R[k] (hr _ (gE6 hlt))) ?_; intro K1 hK1)
 rintro _ _ ⟨rfl, rfl⟩
 (refine Wk ?_; clear hK1 K1)
 (refine Wb @Bool.not_true ?_; repeat clear hK K)
 refine Wm ?_
 (refine We ?_;(repeat clear hK K);repeat refine kq fun K hK=>?_)
 refine Wn ?_
 refine hK _ (k + 1) (by omega) (by omega) ?_
 exact Wo
end Go.Proofs.YthnkailnoobdoaaGreatDoor
