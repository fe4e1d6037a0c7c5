/- Lemmas. -/
import Derived.Test.YthnkailnoobdoaaGreatDoorZk
import Derived.Test.YthnkailnoobdoaaGreatDoorG36
namespace Go.Proofs.YthnkailnoobdoaaGreatDoor
set_option linter.unusedVariables false
set_option linter.unusedSimpArgs false
open Go.RowKit
set_option maxRecDepth 100000
attribute [local go_sem] List.set_cons_zero List.set_cons_succ List.map_cons List.map_nil List.take_succ_cons List.take_zero List.drop_zero List.drop_succ_cons C.pl C.one List.all_cons List.all_nil Bool.and_true

theorem SC (T : List Int) (hT : TpOk T) (a0 n : Nat) (ha : a0 <= 1000000) (hn1 : 1 <= n) (hn : n <= 20) :
  FC Tryz.prog 7 [.a (.c (.p 0 0)), .i n] [tape T a0] (fun r o => ∃ (a' : Nat) (R : List (List Ar)), o = [tape T a', .r ⟨41, 1, true, AC R⟩, .r ⟨25, 1, false, [.s 1 R.length]⟩] /\ r = .a (.g [.s 1 R.length]) /\ a' <= a0 + 1 + 7 * n /\ 1 <= R.length /\ R.length <= n /\ OkSys 3 R.length R) := by
 refine A9 Tryz.func7 rfl (by rw [Tryz.ntmps7]; simp) ?_
 rw [Tryz.ntmps7]
 simp only [Bz, tape, KN]
 (refine We ?_;(repeat clear hK K);repeat refine kq fun K hK=>?_)
 (refine Ad rfl ?_; intro K1 hK1; refine ct [0] (BW T a0 n hT (by omega) (by omega)) ?_ ?_)
 ·rintro _ _ ⟨rfl, v, rfl, _⟩; rfl
 rintro _ _ ⟨rfl, m, rfl, hm⟩
 (simp only [Aq, Bc, tape, List.append_nil, List.nil_append, List.length_map, go_sem]; refine hK1 _ ?_; clear hK1 K1)
 have em : (1 + (m : Int)).toNat = m + 1 := by omega
 (refine Wf (an @em (an @List.set_cons_zero.{0} @List.set_cons_succ.{0})) ?_;(repeat clear hK K);repeat refine kq fun K hK=>?_)
 refine Av (CD 2 rfl) ?_
 simp only [KM, List.set_cons_zero, List.set_cons_succ]
 refine A6 (fun p : Nat × List (List Ar) × Nat => { tm := [(0, .a (.c (.p 0 0))), (4, .a (.c (.p 1 0))), (5, .a (.c (.p 3 0))), (6, .i p.1)], hp := [.r ⟨43, 2, false, [.t 1 (Aa T), .v (.int .i64 p.2.2)]⟩, .r ⟨25, 1, false, [.v (.slice none 0 0)]⟩, .r ⟨41, 1, true, AC p.2.1⟩, .r ⟨25, 1, false, [.s 2 (m + 1)]⟩], n := 46, pin := 1 })
  (fun p => p.1 <= m + 1 /\ p.2.2 <= a0 + 1 + 7 * p.1 /\ OkSys 3 (m + 1) p.2.1 /\ ∀ q r, p.1 <= q -> p.2.1[q]? = some r -> r = []) (fun p => m + 1 - p.1) (0, List.replicate (m + 1) [], a0 + 1) ?_ ?_ ?_
 ·refine ⟨by simp, by simp, IE _, fun q r _ hr => ?_⟩
  exact List.eq_of_mem_replicate (gE9 hr)
 ·exact Wo
 rintro ⟨i, R, a⟩ ⟨hi, hA, hR, hE⟩ K hK
 simp only at hi hA hR hE ⊢
 (refine We ?_;(repeat clear hK K);repeat refine kq fun K hK=>?_)
 (refine AA ?_; intro X Y hX hY; simp only [go_sem])
 refine ⟨fun h => hX ?_, fun h => hY ?_⟩
 rotate_left
 ·have hi1 : i = m + 1 := by simp at h; omega
  clear hX hY X Y
  (refine Wi ?_;repeat clear hK K)
  (refine Wf (an @List.set_cons_zero.{0} @List.set_cons_succ.{0}) ?_;(repeat clear hK K);repeat refine kq fun K hK=>?_)
  (repeat (first | (refine AG ?_; intro K hK) | refine Am ?_ | refine Ag ?_ | (refine Bg rfl rfl ?_; intro K1 hK1; simp only [go_sem, List.set_cons_zero, List.set_cons_succ, C.pl, C.one, List.all_cons, List.all_nil, Bool.and_true, List.take_succ_cons, List.take_zero, List.drop_zero]; (first | refine hK1 _ ?_ | refine AE (hK1 _ ?_)); clear hK1 K1) | ((first | refine Ab ?_ | refine Ap ?_); refine hK _ ?_; clear hK K)))
  refine Wq [0, 2, 1] Tryz.results7 @Bp ?_
  exact ⟨a, R, by simp only [tape, hR.1], by rw [hR.1], by omega, by rw [hR.1]; omega, by rw [hR.1]; omega, by rw [hR.1]; exact hR⟩
 have hi1 : i < m + 1 := by simp at h; omega
 clear hX hY X Y
 (refine We ?_;(repeat clear hK K);repeat refine kq fun K hK=>?_)
 (refine Ad rfl ?_; intro K1 hK1; refine ct [0] (BW T a 4 hT (by omega) (by omega)) ?_ ?_)
 ·rintro _ _ ⟨rfl, v, rfl, _⟩; rfl
 rintro _ _ ⟨rfl, w0, rfl, hw0⟩
 (simp only [Aq, Bc, tape, AL, List.append_nil, List.nil_append, List.length_map, go_sem]; refine hK1 _ ?_; clear hK1 K1)
 (refine We ?_;(repeat clear hK K);repeat refine kq fun K hK=>?_)
 refine A6 (fun p : Nat × List (List Ar) × Nat => { tm := [(0, .a (.c (.p 0 0))), (4, .a (.c (.p 1 0))), (5, .a (.c (.p 3 0))), (6, .i i), (7, .i p.1)], hp := [.r ⟨43, 2, false, [.t 1 (Aa T), .v (.int .i64 p.2.2)]⟩, .r ⟨25, 1, false, [.v (.slice none 0 0)]⟩, .r ⟨41, 1, true, AC p.2.1⟩, .r ⟨25, 1, false, [.s 2 (m + 1)]⟩], n := 46, pin := 1 })
  (fun p => p.1 <= 3 /\ p.2.2 + 2 * p.1 <= a + 7 /\ OkSys 3 (m + 1) p.2.1 /\ (∀ r, p.2.1[i]? = some r -> r.length + p.1 <= 3) /\ ∀ q r, i + 1 <= q -> p.2.1[q]? = some r -> r = []) (fun p => p.1) (w0, R, a + 1) ?_ ?_ ?_
 ·refine ⟨by simp only; omega, by simp only; omega, hR, fun r hr => ?_, fun q r hq hr => hE q r (by omega) hr⟩
  rw [hE i r (Nat.le_refl _) hr]; simp; omega
 ·exact Wo
 rintro ⟨w, R2, a2⟩ ⟨hw, hA2, hR2, hi2, hE2⟩ K hK
 simp only at hw hA2 hR2 hi2 hE2 ⊢
 have hl2 : i < R2.length := by rw [hR2.1]; exact hi1
 have hg2 := gE1 hl2
 have hrow := hR2.2 _ (gE6 hl2)
 (refine We ?_;(repeat clear hK K);repeat refine kq fun K hK=>?_)
 (refine AA ?_; intro X Y hX hY; simp only [go_sem])
 refine ⟨fun h => hX ?_, fun h => hY ?_⟩
 rotate_left
 ·have hw0 : w = 0 := by simp at h; omega
  clear hX hY X Y
  (refine Wi ?_;repeat clear hK K)
  (refine We ?_;(repeat clear hK K);repeat refine kq fun K hK=>?_)
  refine Wn ?_
  refine hK _ (i + 1, R2, a2) ⟨by simp only; omega, by simp only; omega, hR2, fun q r hq hr => hE2 q r hq hr⟩ (by simp only; omega) ?_
  exact Wo
 have hw1 : 0 < w := by simpa using h
 clear hX hY X Y
 (refine We ?_;(repeat clear hK K);repeat refine kq fun K hK=>?_)
 refine BJ [0] [(0,0,0),(2,0,0),(3,0,0),(5,0,0),(8,0,0),(10,0,0),(11,0,0),(1,1,18),(4,1,16),(6,0,0),(7,1,16),(12,1,14),(13,0,0),(9,2,0),(14,2,0),(15,0,0),(16,2,0),(17,0,0),(18,2,0)] (by kernel_rfl) (by kernel_rfl) (by intro c st h; simp [Ae, AJ, VD] at h) ?_
 (repeat (first | (refine VY rfl rfl rfl ?_; intro K1 hK1; simp only [undef, VO, go_sem, Af, B5 hg2]; first | (refine hK1 _ ?_; clear hK1 K1) | (refine AE (hK1 _ ?_); clear hK1 K1)) | (refine VZ rfl rfl rfl rfl rfl rfl rfl rfl rfl ?_; intro K1 hK1; simp only [undef, VO, go_sem, Af, B5 hg2]; first | (refine hK1 _ ?_; clear hK1 K1) | (refine AE (hK1 _ ?_); clear hK1 K1))))
 (refine W0 rfl rfl ?_; intro K1 hK1; refine BG (ids := []) [0] (DU T hT a2 (by omega)) rfl rfl (by simp only [VO, go_sem]) (by kernel_rfl) rfl rfl rfl (by (simp only [VO, E3, List.map_append, List.append_nil, AV.ren, A0.ren, C.ren, idx, Cc, BU, go_sem]) <;> rfl) (by (simp only [VC, Ob.ren, C.ren, idx, Cc, BU, List.getD_cons_zero, List.getD_cons_succ, tape, go_sem]) <;> rfl) ?_ ?_)
 ·rintro _ _ ⟨rfl, v, rfl, _⟩; exact C8 rfl
 rintro _ _ ⟨rfl, e, rfl, he⟩
 (simp only [Aq, Bc, tape, AL, List.append_nil, List.nil_append, List.length_map, go_sem]; refine hK1 _ ?_; clear hK1 K1)
 (repeat (first | (refine VY rfl rfl rfl ?_; intro K1 hK1; simp only [undef, VO, go_sem]; first | (refine hK1 _ ?_; clear hK1 K1) | (refine AE (hK1 _ ?_); clear hK1 K1)) | (refine VZ rfl rfl rfl rfl rfl rfl rfl rfl rfl ?_; intro K1 hK1; simp only [undef, VO, go_sem]; first | (refine hK1 _ ?_; clear hK1 K1) | (refine AE (hK1 _ ?_); clear hK1 K1))))
 (refine W0 rfl rfl ?_; intro K1 hK1; refine BG (ids := []) [0] (BW T (a2 + 1) (m + 1) hT (by omega) (by omega)) rfl rfl (by simp only [VO, go_sem]) (by kernel_rfl) rfl rfl rfl (by (simp only [VO, E3, List.map_append, List.append_nil, AV.ren, A0.ren, C.ren, idx, Cc, BU, go_sem]) <;> rfl) (by (simp only [VC, Ob.ren, C.ren, idx, Cc, BU, List.getD_cons_zero, List.getD_cons_succ, tape, go_sem]) <;> rfl) ?_ ?_)
 ·rintro _ _ ⟨rfl, v, rfl, _⟩; exact C8 rfl
 rintro _ _ ⟨rfl, t, rfl, ht⟩
 (simp only [Aq, Bc, tape, AL, List.append_nil, List.nil_append, List.length_map, go_sem]; refine hK1 _ ?_; clear hK1 K1)
 (repeat (first | (refine VY rfl rfl rfl ?_; intro K1 hK1; simp only [undef, VO, go_sem]; first | (refine hK1 _ ?_; clear hK1 K1) | (refine AE (hK1 _ ?_); clear hK1 K1)) | (refine VZ rfl rfl rfl rfl rfl rfl rfl rfl rfl ?_; intro K1 hK1; simp only [undef, VO, go_sem]; first | (refine hK1 _ ?_; clear hK1 K1) | (refine AE (hK1 _ ?_); clear hK1 K1))))
 (refine W0 rfl rfl ?_; intro K1 hK1; refine Au ?_; refine BG (ids := []) [] (F4 R2[i] (e, (t : Int)) (by have := hrow.2.1; omega)) rfl rfl (by simp only [VO, go_sem]) (by kernel_rfl) rfl rfl rfl (by (simp only [VO, E3, List.map_append, List.append_nil, AV.ren, A0.ren, C.ren, idx, Cc, BU, go_sem]) <;> rfl) (by (simp only [VC, Ob.ren, C.ren, idx, Cc, BU, List.getD_cons_zero, List.getD_cons_succ, Dx, go_sem]) <;> rfl) ?_ ?_)
 ·rintro _ _ ⟨rfl, rfl⟩ i o hi hl; simp at hl
 rintro _ _ ⟨rfl, rfl⟩
 (simp only [Aq, Bc, Dx, AL, List.append_nil, List.nil_append, List.length_map, go_sem]; refine hK1 _ ?_; clear hK1 K1)
 (repeat (first | (refine VY rfl rfl rfl ?_; intro K1 hK1; simp only [undef, VO, go_sem]; first | (refine hK1 _ ?_; clear hK1 K1) | (refine AE (hK1 _ ?_); clear hK1 K1)) | (refine VZ rfl rfl rfl rfl rfl rfl rfl rfl rfl ?_; intro K1 hK1; simp only [undef, VO, go_sem]; first | (refine hK1 _ ?_; clear hK1 K1) | (refine AE (hK1 _ ?_); clear hK1 K1))))
 refine W1 rfl rfl rfl ?_; intro K1 hK1
 refine B4 rfl ?_; simp only [undef, VO, ST.put, Dr, A0.cells, Af, List.set_cons_zero, List.set_cons_succ, Ey, go_sem]
 (first | (refine hK1 _ ?_; clear hK1 K1) | (refine AE (hK1 _ ?_); clear hK1 K1))
 refine MA ⟨by simp, by simp, ?_⟩
 refine hK _ ?_; clear hK K
 (refine We ?_;(repeat clear hK K);repeat refine kq fun K hK=>?_)
 refine Wn ?_
 have hx : 0 <= e /\ e <= 1025 /\ 0 <= (t : Int) /\ (t : Int) < ((m + 1 : Nat) : Int) := ⟨he.1, he.2, by omega, by omega⟩
 have e1 : ((w : Int) - 1) = ((w - 1 : Nat) : Int) := by omega
 have hw3 := hi2 _ hg2
 refine hK _ (w - 1, R2.set i (CK (e, (t : Int)) R2[i]), a2 + 2) ⟨by simp only; omega, by simp only; omega, hR2.set ?_ i, fun r hr => ?_, fun q r hq hr => ?_⟩ (by simp only; omega) ?_
 rotate_left 2
 ·simp only at hr
  rw [gE5 (by omega)] at hr
  exact hE2 q r hq hr
 ·(refine BP ?_; simp only [Dq, go_sem, e1]; try simp)
 ·exact (OkRow.ins ⟨hrow.1, Nat.le_refl _, hrow.2.2⟩ hx).le (by omega)
 simp only at hr ⊢
 rw [gEc hl2] at hr
 cases hr
 have := Dj (e, (t : Int)) R2[i]
 omega

set_option maxHeartbeats 1000000 in
theorem O8 (T : List Int) (hT : TpOk T) (a0 n : Nat) (ha : a0 <= 500000) (hn1 : 1 <= n) (hn : n <= 20) :
  FC Tryz.prog 24 [.a (.c (.p 0 0)), .i n] [tape T a0] (fun r o => ∃ (a' : Nat) (R : List (List Ar)), o = [tape T a', .r ⟨41, 1, true, AC R⟩, .r ⟨25, 1, false, [.s 1 R.length]⟩] /\ r = .a (.g [.s 1 R.length]) /\ a' <= a0 + 1 + 8 * n /\ 1 <= R.length /\ R.length <= n /\ OkSys 4 R.length R) := by
 refine A9 Tryz.func24 rfl (by rw [Tryz.ntmps24]; simp) ?_
 rw [Tryz.ntmps24]
 simp only [Bz, tape, KN, Bh]
 (refine We ?_;(repeat clear hK K);repeat refine kq fun K hK=>?_)
 (refine Ad rfl ?_; intro K1 hK1; refine ct [0] (SC T hT a0 n (by omega) hn1 hn) ?_ ?_)
 ·rintro _ _ ⟨_, _, rfl, rfl, _⟩; rfl
 rintro _ _ ⟨a1, R0, rfl, rfl, ha1, hl1, hl2, hok⟩
 (simp only [Aq, Bc, tape, AL, List.append_nil, List.nil_append, List.length_map, go_sem]; refine hK1 _ ?_; clear hK1 K1)
 (refine We ?_;(repeat clear hK K);repeat refine kq fun K hK=>?_)
 refine Av (A8 [0, 1, 2, 4] rfl rfl) ?_
 (try simp only [List.set_nil, List.take_nil, List.take_zero, List.map_append, go_sem])
 (try simp only [Bp])
 obtain ⟨m, hm⟩ : ∃ m, m = R0.length := ⟨_, rfl⟩
 rw [<- hm] at hl1 hl2 hok
 (try rw [<- hm])
 refine A6 (fun p : Nat × List (List Ar) × Nat => { tm := [(0, .a (.c (.p 0 0))), (4, .a (.c (.p 1 0))), (5, .a (.c (.p 3 0))), (6, .i p.1)], hp := [.r ⟨43, 2, false, [.t 1 (Aa T), .v (.int .i64 p.2.2)]⟩, .r ⟨25, 1, false, [.v (.slice none 0 0)]⟩, .r ⟨41, 1, true, AC p.2.1⟩, .r ⟨25, 1, false, [.s 2 m]⟩], n := 34, pin := 1 })
  (fun p => p.1 + 1 <= m /\ p.2.2 <= a1 + p.1 /\ OkSys 4 m p.2.1 /\ ∀ q r, p.1 <= q -> p.2.1[q]? = some r -> r.length <= 3) (fun p => m - p.1) (0, R0, a1) ?_ ?_ ?_
 ·exact ⟨by simp only; omega, by simp, hok.le (by omega), fun q r _ hr => (hok.2 r (gE9 hr)).2.1⟩
 ·exact Wo
 rintro ⟨s, R, a⟩ ⟨hs, hA, hR, hE⟩ K hK
 simp only at hs hA hR hE ⊢
 have hRl := hR.1
 by_cases hlt : s + 1 < m
 rotate_left
 ·have hl0 : decide ((s : Int) + 1 < (m : Int)) = false := by simp; omega
  (refine Wf @hl0 ?_;(repeat clear hK K);repeat refine kq fun K hK=>?_)
  refine Wm ?_
  (refine Wi ?_;repeat clear hK K)
  (refine We ?_;(repeat clear hK K);repeat refine kq fun K hK=>?_)
  refine Wq [0, 2, 1] Tryz.results24 @Bp ?_
  exact ⟨a, R, by simp only [tape, hRl], by rw [hRl], by omega, by omega, by omega, by rw [hRl]; exact hR⟩
 have hl0 : decide ((s : Int) + 1 < (m : Int)) = true := by simp; omega
 have hl2' : s < R.length := by omega
 have hg2 := gE1 hl2'
 have hrow := hR.2 _ (gE6 hl2')
 have hne : (AC R).isEmpty = false := by
  have := Af R
  cases hc : AC R with
  | nil => rw [hc] at this; simp at this; omega
  | cons _ _ => rfl
 (refine Wf @hl0 ?_;(repeat clear hK K);repeat refine kq fun K hK=>?_)
 refine Wl ?_
 (refine We ?_;(repeat clear hK K);repeat refine kq fun K hK=>?_)
 (refine AD [2, 3] (.m 0 0 0 (.m 2 0 0 (.m 3 0 0 (.m 5 0 0 (.m 8 0 0 (.m 10 0 0 (.m 11 0 0 (.m 1 1 15 (.m 4 1 13 (.m 6 0 0 (.m 7 1 13 (.a 9 (.m 12 0 0 (.a 13 (.m 14 0 0 (.a 15 .e)))))))))))))))) (by kernel_rfl) (by kernel_rfl) (by intro c st h; simp [Ae, AJ, VD] at h) ?_)
 (refine Wh (an @Af (B5 hg2)) ?_; repeat clear hK K)
 (refine EY rfl rfl rfl ?_; intro K1 hK1; refine yX [0] ?_; refine xy [0] (DU T hT a (by omega)) ?_ ?_)
 ·rintro _ _ ⟨rfl, v, rfl, _⟩; exact C8 rfl
 rintro _ _ ⟨rfl, e, rfl, he⟩
 (simp only [Aq, Bc, tape, AL, List.append_nil, List.nil_append, List.length_map, go_sem]; refine hK1 _ ?_; clear hK1 K1)
 (refine Wg ?_; repeat clear hK K)
 (refine EY rfl rfl rfl ?_; intro K1 hK1; refine yX [] ?_; refine BG (ids := []) [] (F4 R[s] (e, (s : Int) + 1) (by have := hrow.2.1; omega)) rfl rfl (by simp only [go_sem]) (by kernel_rfl) rfl rfl rfl (by (simp only [go_sem]) <;> rfl) (by (simp only [VC, Dx, go_sem]) <;> rfl) ?_ ?_)
 ·rintro _ _ ⟨rfl, rfl⟩ i o hi hl; simp at hl
 rintro _ _ ⟨rfl, rfl⟩
 (simp only [Aq, Bc, Dx, AL, List.append_nil, List.nil_append, List.length_map, go_sem]; refine hK1 _ ?_; clear hK1 K1)
 (refine Wg ?_; repeat clear hK K)
 (refine W5 rfl rfl rfl rfl ?_; intro K1 hK1; refine B4 rfl ?_; simp only [go_sem, ST.put, Dr, A0.cells, Af, Ey]; (first | refine hK1 _ ?_ | refine AE (hK1 _ ?_)); clear hK1 K1)
 (refine Wg ?_; repeat clear hK K)
 (refine We ?_;(repeat clear hK K);repeat refine kq fun K hK=>?_)
 refine Wn ?_
 have hx : 0 <= e /\ e <= 1025 /\ 0 <= (s : Int) + 1 /\ (s : Int) + 1 < (m : Int) := ⟨he.1, he.2, by omega, by omega⟩
 have h3 := hE s _ (Nat.le_refl _) hg2
 refine hK _ (s + 1, R.set s (CK (e, (s : Int) + 1) R[s]), a + 1) ⟨by simp only; omega, by simp only; omega, hR.set ?_ s, fun q r hq hr => ?_⟩ (by simp only; omega) ?_
 rotate_left 2
 ·exact Wo
 ·exact (OkRow.ins (m := m) ⟨hrow.1, h3, hrow.2.2⟩ hx)
 simp only at hr hq
 rw [gE5 (by omega)] at hr
 exact hE q r (by omega) hr
end Go.Proofs.YthnkailnoobdoaaGreatDoor
