/- Lemmas. -/
import Derived.Test.YtjijjfkalheokaaDoorZk
import Derived.Test.YtjijjfkalheokaaDoorMG
import Derived.Test.YtjijjfkalheokaaDoorMcu
import Derived.Test.YtjijjfkalheokaaDoorCv1
namespace Go.Proofs.YtjijjfkalheokaaDoor
set_option linter.unusedVariables false
set_option linter.unusedSimpArgs false
open Go.RowKit
set_option maxRecDepth 100000
attribute [local go_sem] lga C.pl C.one

theorem MM (x y : Operand) (a : Ar) : EL Tryd.prog .neq 29 x y [.int .i64 a.1, .int .i64 a.2] [.int .i64 a.1, .int .i64 a.2] false = True := by
 have h := LH x y a a
 rw [gEg (rfl : a = a)] at h
 exact h
theorem KB (r : List Ar) (hn : r.length <= 1000000) : FC Tryd.prog 22 [.a (.c (.t 2 (Al r))), .a (.c (.t 2 (Al r)))] [] (fun x o => o = [] /\ x = .b true) := by
 refine A8 Tryd.func22 rfl (by rw [Tryd.ntmps22]; simp) ?_
 rw [Tryd.ntmps22]
 simp only [Bs]
 have d0 : ((r.length : Int) != (r.length : Int)) = false := by simp
 (refine Ue (an @A4 (an @AA @d0)) ?_;(repeat clear hK K);repeat refine kq fun K hK=>?_)
 refine Ul ?_
 (refine Ud ?_;(repeat clear hK K);repeat refine kq fun K hK=>?_)
 refine Ac (fun k : Nat => { tm := [(0, .a (.c (.t 2 (Al r)))), (1, .a (.c (.t 2 (Al r)))), (5, .i k)], hp := [], n := 26, pin := 0 }) (fun k => k <= r.length) (fun k => r.length - k) 0 ?_ ?_ ?_
 ·omega
 ·exact Un
 rintro k hk K hK
 by_cases hlt : k < r.length
 rotate_left
 ·have d1 : decide ((k : Int) < (r.length : Int)) = false := by simpa using hlt
  (refine Ue (an @d1 (an @A4 @AA)) ?_;(repeat clear hK K);repeat refine kq fun K hK=>?_)
  refine Ul ?_
  (refine Uh ?_;repeat clear hK K)
  (refine Ud ?_;(repeat clear hK K);repeat refine kq fun K hK=>?_)
  exact Re [] Tryd.results22
 have d1 : decide ((k : Int) < (r.length : Int)) = true := by simpa using hlt
 have hat := AH hlt
 have d2 : (!decide (r[k] = r[k])) = false := by simp
 (refine Ue (an @d1 (an @A4 @AA)) ?_;(repeat clear hK K);repeat refine kq fun K hK=>?_)
 refine Uk ?_
 (refine Ud ?_;(repeat clear hK K);repeat refine kq fun K hK=>?_)
 (refine Ag 8 [(0, 0), (1, 0), (2, 0), (3, 1), (4, 0), (5, 0), (6, 0), (7, 1), (8, 2)] (by kernel_rfl) (by kernel_rfl) (by intro c st h; simp [Ai, AX, Tz] at h) ?_)
 (repeat (first | ((first | refine QN rfl rfl rfl ?_ | refine QO rfl rfl rfl ?_); intro K1 hK1; simp only [go_sem, hat, A4, AA, MM, CN, decide_true, Bool.not_true, beq_self_eq_true, Bool.and_self, true_and]; (first | refine hK1 _ ?_ | refine AE (hK1 _ ?_)); clear hK1 K1) | (refine QP rfl rfl rfl rfl ?_; intro K1 hK1; simp only [go_sem, hat, A4, AA, MM, CN, decide_true, Bool.not_true, beq_self_eq_true, Bool.and_self, true_and]; (first | refine hK1 _ ?_ | refine AE (hK1 _ ?_)); clear hK1 K1) | (refine Hh ?_; refine hK _ ?_; clear hK K)))
 refine Ul ?_
 (refine Ud ?_;(repeat clear hK K);repeat refine kq fun K hK=>?_)
 refine Um ?_
 refine hK _ (k + 1) (by omega) (by omega) ?_
 exact Un
theorem Iz (R : List (List Ar)) (hn : R.length <= 1000000) (hr : ∀ r ∈ R, r.length <= 1000000) : FC Tryd.prog 7 [BS R, BS R] [] (fun x o => o = [] /\ x = .b true) := by
 refine A8 Tryd.func7 rfl (by rw [Tryd.ntmps7]; simp) ?_
 rw [Tryd.ntmps7]
 simp only [Bs, BS]
 have d0 : ((R.length : Int) != (R.length : Int)) = false := by simp
 (refine Ue (an @A6 @d0) ?_;(repeat clear hK K);repeat refine kq fun K hK=>?_)
 refine Ul ?_
 (refine Ud ?_;(repeat clear hK K);repeat refine kq fun K hK=>?_)
 refine Ac (fun k : Nat => { tm := [(2, .a (.c (.p 0 0))), (3, .a (.c (.p 1 0))), (5, .i k)], hp := [.r ⟨24, 1, false, [.t 1 (Ae R)]⟩, .r ⟨24, 1, false, [.t 1 (Ae R)]⟩], n := 32, pin := 0 }) (fun k => k <= R.length) (fun k => R.length - k) 0 ?_ ?_ ?_
 ·omega
 ·exact Un
 rintro k hk K hK
 by_cases hlt : k < R.length
 rotate_left
 ·have d1 : decide ((k : Int) < (R.length : Int)) = false := by simpa using hlt
  (refine Ue (an @d1 @A6) ?_;(repeat clear hK K);repeat refine kq fun K hK=>?_)
  refine Ul ?_
  (refine Uh ?_;repeat clear hK K)
  (refine Ud ?_;(repeat clear hK K);repeat refine kq fun K hK=>?_)
  exact Re [] Tryd.results7
 have d1 : decide ((k : Int) < (R.length : Int)) = true := by simpa using hlt
 have hg := gE1 hlt
 (refine Ue (an @d1 @A6) ?_;(repeat clear hK K);repeat refine kq fun K hK=>?_)
 refine Uk ?_
 (refine Ud ?_;(repeat clear hK K);repeat refine kq fun K hK=>?_)
 (refine Ag 10 [(0, 0), (1, 1), (2, 0), (3, 0), (4, 1), (5, 0), (6, 1), (7, 0), (8, 0), (9, 1), (10, 2), (11, 0)] (by kernel_rfl) (by kernel_rfl) (by intro c st h; simp [Ai, AX, Tz] at h) ?_)
 (refine Ua (an @A6 (AQ hg)) ?_; repeat clear hK K)
 (refine S5 (KB R[k] (hr _ (gE6 hlt))) ?_; intro K1 hK1)
 rintro _ _ ⟨rfl, rfl⟩
 (refine Uj ?_; clear hK1 K1)
 (refine Ua @Bool.not_true ?_; repeat clear hK K)
 refine Ul ?_
 (refine Ud ?_;(repeat clear hK K);repeat refine kq fun K hK=>?_)
 refine Um ?_
 refine hK _ (k + 1) (by omega) (by omega) ?_
 exact Un
def We : List (List Ar) := [[(2, 1), (3, 2)], [], []]
def Wf : List (List Ar) := [[(0, 1), (2, 2), (3, 2)], [], []]
def Wg : List (List Ar) := [[(3, 1)], []]
def Wh : List (List Ar) := [[(0, 1), (3, 2)], [], []]
theorem SH : (CG (We.map (Wc [(2, 3)]))).1 = Wg := by kernel_rfl
theorem SI : (CG (Wf.map (Wc [(2, 3)]))).1 = Wh := by kernel_rfl
theorem SK : Bg We = true := by kernel_rfl
theorem SL : Bg Wf = true := by kernel_rfl
theorem SU : KE [(2, 3)] = true := by kernel_rfl
theorem SV : SortA [(2, 3)] := by simp [SortA]
set_option maxHeartbeats 2000000 in
theorem MN : FC Tryd.prog 8 [] [] (fun r _ => r = .b true) := by
 refine A8 Tryd.func8 rfl (by rw [Tryd.ntmps8]; simp) ?_
 rw [Tryd.ntmps8]
 simp only [Bs]
 have hpA := MK We [(2, 3)] SK (by decide) (by decide) (by decide) SU SV (by decide) (by decide)
 have hpB := MK Wf [(2, 3)] SL (by decide) (by decide) (by decide) SU SV (by decide) (by decide)
 rw [SH] at hpA
 rw [SI] at hpB
 have hsC := Iz Wg (by decide) (by decide)
 have hsD := Iz Wh (by decide) (by decide)
 simp only [BS, CH] at hpA hpB hsC hsD
 (refine Nh ?_;(repeat clear hK K);repeat refine kq fun K hK=>?_)
 refine B3 (B6 (r := ⟨29, 2, true, Ao [(2, 1), (3, 2)]⟩) (ts := Al [(2, 1), (3, 2)]) 2 0 1 2 (by decide) rfl rfl rfl rfl (show 0 < 2 by omega) rfl (Dp _)) ?_
 simp only [go_sem]
 refine B3 (Ig 2 [2, 2, 2] rfl) ?_
 simp only [UM, TF, go_sem]
 (refine B3 (Bh (r := ⟨30, 1, true, Bd We⟩) 2 (Ae We) rfl (F4 _) (show 0 < (1 : Nat) by omega)) ?_; simp only [ST.frz, A0.frz, AV.frz, C.frz, Nat.le_refl, List.set_cons_zero, List.set_cons_succ, go_sem, show (Ae We).take 3 = Ae We from rfl, show (if 3 <= (Ae We).length then C.t 1 (Ae We) else C.u) = C.t 1 (Ae We) from rfl])
 (refine B3 (Bh (r := ⟨52, 2, true, Ao [(2, 3)]⟩) 0 (Al [(2, 3)]) rfl (Dp _) (show 0 < (2 : Nat) by omega)) ?_; simp only [ST.frz, A0.frz, AV.frz, C.frz, Nat.le_refl, List.set_cons_zero, List.set_cons_succ, go_sem, show (Al [(2, 3)]).take (1 * 2) = Al [(2, 3)] from rfl, show (Al [(2, 3)]).take 2 = Al [(2, 3)] from rfl, show (if 1 * 2 <= (Al [(2, 3)]).length then C.t 2 (Al [(2, 3)]) else C.u) = C.t 2 (Al [(2, 3)]) from rfl, show (if 2 <= (Al [(2, 3)]).length then C.t 2 (Al [(2, 3)]) else C.u) = C.t 2 (Al [(2, 3)]) from rfl])
 (refine Ui hpA ?_; intro K1 hK1)
 rintro _ _ ⟨rfl, rfl⟩
 (refine Uj ?_; clear hK1 K1)
 (refine Nh ?_;(repeat clear hK K);repeat refine kq fun K hK=>?_)
 refine B3 (B6 (r := ⟨29, 2, true, Ao [(0, 1), (2, 2), (3, 2)]⟩) (ts := Al [(0, 1), (2, 2), (3, 2)]) 6 0 5 3 (by decide) rfl rfl rfl rfl (show 0 < 2 by omega) rfl (Dp _)) ?_
 simp only [go_sem]
 refine B3 (Ig 6 [2, 2, 2] rfl) ?_
 simp only [UM, TF, go_sem]
 (refine B3 (Bh (r := ⟨30, 1, true, Bd Wf⟩) 6 (Ae Wf) rfl (F4 _) (show 0 < (1 : Nat) by omega)) ?_; simp only [ST.frz, A0.frz, AV.frz, C.frz, Nat.le_refl, List.set_cons_zero, List.set_cons_succ, go_sem, show (Ae Wf).take 3 = Ae Wf from rfl, show (if 3 <= (Ae Wf).length then C.t 1 (Ae Wf) else C.u) = C.t 1 (Ae Wf) from rfl])
 (refine Ui hpB ?_; intro K1 hK1)
 rintro _ _ ⟨rfl, rfl⟩
 (refine Uj ?_; clear hK1 K1)
 (refine Nh ?_;(repeat clear hK K);repeat refine kq fun K hK=>?_)
 refine B3 (B6 (r := ⟨29, 2, true, Ao [(3, 1)]⟩) (ts := Al [(3, 1)]) 10 0 9 1 (by decide) rfl rfl rfl rfl (show 0 < 2 by omega) rfl (Dp _)) ?_
 simp only [go_sem]
 refine B3 (Ig 10 [2, 2] rfl) ?_
 simp only [UM, TF, go_sem]
 (refine B3 (Bh (r := ⟨30, 1, true, Bd Wg⟩) 10 (Ae Wg) rfl (F4 _) (show 0 < (1 : Nat) by omega)) ?_; simp only [ST.frz, A0.frz, AV.frz, C.frz, Nat.le_refl, List.set_cons_zero, List.set_cons_succ, go_sem, show (Ae Wg).take 2 = Ae Wg from rfl, show (if 2 <= (Ae Wg).length then C.t 1 (Ae Wg) else C.u) = C.t 1 (Ae Wg) from rfl])
 (refine Dm rfl rfl (by simp only [go_sem] <;> rfl) ?_; intro K1 hK1; refine (Bu (ids := []) (hsC) rfl rfl (by simp only [go_sem]) (by kernel_rfl) (by (simp only [List.append_nil, go_sem]) <;> rfl) ?_).stp)
 rintro _ _ ⟨rfl, rfl⟩
 (refine Uj ?_; clear hK1 K1)
 (refine Nh ?_;(repeat clear hK K);repeat refine kq fun K hK=>?_)
 refine B3 (B6 (r := ⟨29, 2, true, Ao [(0, 1), (3, 2)]⟩) (ts := Al [(0, 1), (3, 2)]) 12 0 11 2 (by decide) rfl rfl rfl rfl (show 0 < 2 by omega) rfl (Dp _)) ?_
 simp only [go_sem]
 refine B3 (Ig 12 [2, 2, 2] rfl) ?_
 simp only [UM, TF, go_sem]
 (refine B3 (Bh (r := ⟨30, 1, true, Bd Wh⟩) 12 (Ae Wh) rfl (F4 _) (show 0 < (1 : Nat) by omega)) ?_; simp only [ST.frz, A0.frz, AV.frz, C.frz, Nat.le_refl, List.set_cons_zero, List.set_cons_succ, go_sem, show (Ae Wh).take 3 = Ae Wh from rfl, show (if 3 <= (Ae Wh).length then C.t 1 (Ae Wh) else C.u) = C.t 1 (Ae Wh) from rfl])
 (refine Dm rfl rfl (by simp only [go_sem] <;> rfl) ?_; intro K1 hK1; refine (Bu (ids := []) (hsD) rfl rfl (by simp only [go_sem]) (by kernel_rfl) (by (simp only [List.append_nil, go_sem]) <;> rfl) ?_).stp)
 rintro _ _ ⟨rfl, rfl⟩
 (refine Uj ?_; clear hK1 K1)
 (refine Ud ?_;(repeat clear hK K);repeat refine kq fun K hK=>?_)
 exact L9 Tryd.results8
set_option maxHeartbeats 2000000 in
theorem QJ : FC Tryd.prog 3 [] [] (fun r _ => r = .b true) := by
 refine A8 Tryd.func3 rfl (by rw [Tryd.ntmps3]; simp) ?_
 rw [Tryd.ntmps3]
 simp only [Bs]
 have hch := Ox W6 Sz (by decide) (by decide)
 rw [SA] at hch
 have hin := RY
 have hsm := Iz W7 (by decide) (by decide)
 simp only [BS] at hch hin hsm
 (refine Nh ?_;(repeat clear hK K);repeat refine kq fun K hK=>?_)
 refine B3 (B6 (r := ⟨29, 2, true, Ao [(0, 1), (0, 2), (2, 3)]⟩) (ts := Al [(0, 1), (0, 2), (2, 3)]) 3 0 0 3 (by decide) rfl rfl rfl rfl (show 0 < 2 by omega) rfl (Dp _)) ?_
 simp only [go_sem]
 refine B3 (B6 (r := ⟨29, 2, true, Ao [(3, 3)]⟩) (ts := Al [(3, 3)]) 3 1 1 1 (by decide) rfl rfl rfl rfl (show 0 < 2 by omega) rfl (Dp _)) ?_
 simp only [go_sem]
 refine B3 (B6 (r := ⟨29, 2, true, Ao [(4, 3)]⟩) (ts := Al [(4, 3)]) 3 2 2 1 (by decide) rfl rfl rfl rfl (show 0 < 2 by omega) rfl (Dp _)) ?_
 simp only [go_sem]
 refine B3 (Ig 3 [2, 2, 2, 2] rfl) ?_
 simp only [UM, TF, go_sem]
 (refine B3 (Bh (r := ⟨30, 1, true, Bd W6⟩) 3 (Ae W6) rfl (F4 _) (show 0 < (1 : Nat) by omega)) ?_; simp only [ST.frz, A0.frz, AV.frz, C.frz, Nat.le_refl, List.set_cons_zero, List.set_cons_succ, go_sem, show (Ae W6).take 4 = Ae W6 from rfl, show (if 4 <= (Ae W6).length then C.t 1 (Ae W6) else C.u) = C.t 1 (Ae W6) from rfl])
 (refine Ui hch ?_; intro K1 hK1)
 rintro _ _ ⟨rfl, rfl⟩
 (refine Uj ?_; clear hK1 K1)
 (refine Nh ?_;(repeat clear hK K);repeat refine kq fun K hK=>?_)
 refine B3 (B6 (r := ⟨29, 2, true, Ao [(0, 1), (2, 2)]⟩) (ts := Al [(0, 1), (2, 2)]) 8 0 6 2 (by decide) rfl rfl rfl rfl (show 0 < 2 by omega) rfl (Dp _)) ?_
 simp only [go_sem]
 refine B3 (B6 (r := ⟨29, 2, true, Ao [(2, 2)]⟩) (ts := Al [(2, 2)]) 8 1 7 1 (by decide) rfl rfl rfl rfl (show 0 < 2 by omega) rfl (Dp _)) ?_
 simp only [go_sem]
 refine B3 (Ig 8 [2, 2, 2] rfl) ?_
 simp only [UM, TF, go_sem]
 (refine B3 (Bh (r := ⟨30, 1, true, Bd W8⟩) 8 (Ae W8) rfl (F4 _) (show 0 < (1 : Nat) by omega)) ?_; simp only [ST.frz, A0.frz, AV.frz, C.frz, Nat.le_refl, List.set_cons_zero, List.set_cons_succ, go_sem, show (Ae W8).take 3 = Ae W8 from rfl, show (if 3 <= (Ae W8).length then C.t 1 (Ae W8) else C.u) = C.t 1 (Ae W8) from rfl])
 (refine Ui hin ?_; intro K1 hK1)
 rintro _ _ ⟨rfl, rfl⟩
 (refine Uj ?_; clear hK1 K1)
 (refine Nh ?_;(repeat clear hK K);repeat refine kq fun K hK=>?_)
 refine B3 (B6 (r := ⟨29, 2, true, Ao [(0, 1)]⟩) (ts := Al [(0, 1)]) 11 0 9 1 (by decide) rfl rfl rfl rfl (show 0 < 2 by omega) rfl (Dp _)) ?_
 simp only [go_sem]
 refine B3 (B6 (r := ⟨29, 2, true, Ao [(3, 2)]⟩) (ts := Al [(3, 2)]) 11 1 10 1 (by decide) rfl rfl rfl rfl (show 0 < 2 by omega) rfl (Dp _)) ?_
 simp only [go_sem]
 refine B3 (Ig 11 [2, 2, 2] rfl) ?_
 simp only [UM, TF, go_sem]
 (refine B3 (Bh (r := ⟨30, 1, true, Bd W7⟩) 11 (Ae W7) rfl (F4 _) (show 0 < (1 : Nat) by omega)) ?_; simp only [ST.frz, A0.frz, AV.frz, C.frz, Nat.le_refl, List.set_cons_zero, List.set_cons_succ, go_sem, show (Ae W7).take 3 = Ae W7 from rfl, show (if 3 <= (Ae W7).length then C.t 1 (Ae W7) else C.u) = C.t 1 (Ae W7) from rfl])
 (refine Dm rfl rfl (by simp only [go_sem] <;> rfl) ?_; intro K1 hK1; refine (Bu (ids := []) (hsm) rfl rfl (by simp only [go_sem]) (by kernel_rfl) (by (simp only [List.append_nil, go_sem]) <;> rfl) ?_).stp)
 rintro _ _ ⟨rfl, rfl⟩
 (refine Uj ?_; clear hK1 K1)
 (refine Ud ?_;(repeat clear hK K);repeat refine kq fun K hK=>?_)
 (refine Dm rfl rfl (by simp only [go_sem] <;> rfl) ?_; intro K1 hK1; refine (Bu (ids := []) (MN) rfl rfl (by simp only [go_sem]) (by kernel_rfl) (by (simp only [List.append_nil, go_sem]) <;> rfl) ?_).stp)
 rintro _ _ rfl
 (refine Uj ?_; clear hK1 K1)
 (refine Ud ?_;(repeat clear hK K);repeat refine kq fun K hK=>?_)
 exact L9 Tryd.results3
end Go.Proofs.YtjijjfkalheokaaDoor
