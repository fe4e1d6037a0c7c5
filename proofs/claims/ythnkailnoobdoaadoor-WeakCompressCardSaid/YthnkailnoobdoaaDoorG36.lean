/- Lemmas. -/
import Derived.Test.YthnkailnoobdoaaDoorG12
import Derived.Test.YthnkailnoobdoaaDoorZk
import Derived.Test.YthnkailnoobdoaaDoorMF
namespace Go.Proofs.YthnkailnoobdoaaDoor
set_option linter.unusedVariables false
set_option linter.unusedSimpArgs false
open Go.RowKit
set_option maxRecDepth 100000
attribute [local go_sem] List.set_cons_zero List.set_cons_succ List.map_cons List.map_nil List.take_succ_cons List.take_zero List.drop_zero List.drop_succ_cons C.pl C.one List.all_cons List.all_nil Bool.and_true

theorem Rv (T : List Int) (hT : TpOk T) (a0 n : Nat) (ha : a0 <= 1000000) (hn1 : 1 <= n) (hn : n <= 20) :
  FC Tryd.prog 15 [.a (.c (.p 0 0)), .i n] [tape T a0] (fun r o => ∃ (a' : Nat) (R : List (List Ar)), o = [tape T a', .r ⟨38, 1, true, Bm R⟩, .r ⟨27, 1, false, [.s 1 R.length]⟩] /\ r = .a (.g [.s 1 R.length]) /\ a' <= a0 + 1 + 7 * n /\ 1 <= R.length /\ R.length <= n /\ OkSys 3 R.length R) := by
 refine Af Tryd.func15 rfl (by rw [Tryd.ntmps15]; simp) ?_
 rw [Tryd.ntmps15]
 simp only [C2, tape, Sj]
 (refine UW ?_;(repeat clear hK K);repeat refine kq fun K hK=>?_)
 (refine Aa rfl ?_; intro K1 hK1; refine ct [0] (H3 T a0 n hT (by omega) (by omega)) ?_ ?_)
 ·rintro _ _ ⟨rfl, v, rfl, _⟩; rfl
 rintro _ _ ⟨rfl, m, rfl, hm⟩
 (simp only [AC, BS, tape, List.append_nil, List.nil_append, List.length_map, go_sem]; refine hK1 _ ?_; clear hK1 K1)
 have em : (1 + (m : Int)).toNat = m + 1 := by omega
 (refine UX (an @em (an @List.set_cons_zero.{0} @List.set_cons_succ.{0})) ?_;(repeat clear hK K);repeat refine kq fun K hK=>?_)
 refine AO (FB 2 rfl) ?_
 simp only [Oy, List.set_cons_zero, List.set_cons_succ]
 refine Ab (fun p : Nat × List (List Ar) × Nat => { tm := [(0, .a (.c (.p 0 0))), (4, .a (.c (.p 1 0))), (5, .a (.c (.p 3 0))), (6, .i p.1)], hp := [.r ⟨41, 2, false, [.t 1 (Ad T), .v (.int .i64 p.2.2)]⟩, .r ⟨27, 1, false, [.v (.slice none 0 0)]⟩, .r ⟨38, 1, true, Bm p.2.1⟩, .r ⟨27, 1, false, [.s 2 (m + 1)]⟩], n := 46, pin := 1 })
  (fun p => p.1 <= m + 1 /\ p.2.2 <= a0 + 1 + 7 * p.1 /\ OkSys 3 (m + 1) p.2.1 /\ ∀ q r, p.1 <= q -> p.2.1[q]? = some r -> r = []) (fun p => m + 1 - p.1) (0, List.replicate (m + 1) [], a0 + 1) ?_ ?_ ?_
 ·refine ⟨by simp, by simp, Mq _, fun q r _ hr => ?_⟩
  exact List.eq_of_mem_replicate (gE9 hr)
 ·exact V7
 rintro ⟨i, R, a⟩ ⟨hi, hA, hR, hE⟩ K hK
 simp only at hi hA hR hE ⊢
 (refine UW ?_;(repeat clear hK K);repeat refine kq fun K hK=>?_)
 (refine As ?_; intro X Y hX hY; simp only [go_sem])
 refine ⟨fun h => hX ?_, fun h => hY ?_⟩
 rotate_left
 ·have hi1 : i = m + 1 := by simp at h; omega
  clear hX hY X Y
  (refine V0 ?_;repeat clear hK K)
  (refine UX (an @List.set_cons_zero.{0} @List.set_cons_succ.{0}) ?_;(repeat clear hK K);repeat refine kq fun K hK=>?_)
  (repeat (first | (refine Ah ?_; intro K hK) | refine A8 ?_ | refine A5 ?_ | (refine AE rfl rfl ?_; intro K1 hK1; simp only [go_sem, List.set_cons_zero, List.set_cons_succ, C.pl, C.one, List.all_cons, List.all_nil, Bool.and_true, List.take_succ_cons, List.take_zero, List.drop_zero]; (first | refine hK1 _ ?_ | refine Aw (hK1 _ ?_)); clear hK1 K1) | ((first | refine A6 ?_ | refine A9 ?_); refine hK _ ?_; clear hK K)))
  refine V9 [0, 2, 1] Tryd.results15 @Dg ?_
  exact ⟨a, R, by simp only [tape, hR.1], by rw [hR.1], by omega, by rw [hR.1]; omega, by rw [hR.1]; omega, by rw [hR.1]; exact hR⟩
 have hi1 : i < m + 1 := by simp at h; omega
 clear hX hY X Y
 (refine UW ?_;(repeat clear hK K);repeat refine kq fun K hK=>?_)
 (refine Aa rfl ?_; intro K1 hK1; refine ct [0] (H3 T a 4 hT (by omega) (by omega)) ?_ ?_)
 ·rintro _ _ ⟨rfl, v, rfl, _⟩; rfl
 rintro _ _ ⟨rfl, w0, rfl, hw0⟩
 (simp only [AC, BS, tape, D3, List.append_nil, List.nil_append, List.length_map, go_sem]; refine hK1 _ ?_; clear hK1 K1)
 (refine UW ?_;(repeat clear hK K);repeat refine kq fun K hK=>?_)
 refine Ab (fun p : Nat × List (List Ar) × Nat => { tm := [(0, .a (.c (.p 0 0))), (4, .a (.c (.p 1 0))), (5, .a (.c (.p 3 0))), (6, .i i), (7, .i p.1)], hp := [.r ⟨41, 2, false, [.t 1 (Ad T), .v (.int .i64 p.2.2)]⟩, .r ⟨27, 1, false, [.v (.slice none 0 0)]⟩, .r ⟨38, 1, true, Bm p.2.1⟩, .r ⟨27, 1, false, [.s 2 (m + 1)]⟩], n := 46, pin := 1 })
  (fun p => p.1 <= 3 /\ p.2.2 + 2 * p.1 <= a + 7 /\ OkSys 3 (m + 1) p.2.1 /\ (∀ r, p.2.1[i]? = some r -> r.length + p.1 <= 3) /\ ∀ q r, i + 1 <= q -> p.2.1[q]? = some r -> r = []) (fun p => p.1) (w0, R, a + 1) ?_ ?_ ?_
 ·refine ⟨by simp only; omega, by simp only; omega, hR, fun r hr => ?_, fun q r hq hr => hE q r (by omega) hr⟩
  rw [hE i r (Nat.le_refl _) hr]; simp; omega
 ·exact V7
 rintro ⟨w, R2, a2⟩ ⟨hw, hA2, hR2, hi2, hE2⟩ K hK
 simp only at hw hA2 hR2 hi2 hE2 ⊢
 have hl2 : i < R2.length := by rw [hR2.1]; exact hi1
 have hg2 := gE1 hl2
 have hrow := hR2.2 _ (gE6 hl2)
 (refine UW ?_;(repeat clear hK K);repeat refine kq fun K hK=>?_)
 (refine As ?_; intro X Y hX hY; simp only [go_sem])
 refine ⟨fun h => hX ?_, fun h => hY ?_⟩
 rotate_left
 ·have hw0 : w = 0 := by simp at h; omega
  clear hX hY X Y
  (refine V0 ?_;repeat clear hK K)
  (refine UW ?_;(repeat clear hK K);repeat refine kq fun K hK=>?_)
  refine V6 ?_
  refine hK _ (i + 1, R2, a2) ⟨by simp only; omega, by simp only; omega, hR2, fun q r hq hr => hE2 q r hq hr⟩ (by simp only; omega) ?_
  exact V7
 have hw1 : 0 < w := by simpa using h
 clear hX hY X Y
 (refine UW ?_;(repeat clear hK K);repeat refine kq fun K hK=>?_)
 refine CJ [0] [(0,0,0),(2,0,0),(3,0,0),(5,0,0),(8,0,0),(10,0,0),(11,0,0),(1,1,18),(4,1,16),(6,0,0),(7,1,16),(12,1,14),(13,0,0),(9,2,0),(14,2,0),(15,0,0),(16,2,0),(17,0,0),(18,2,0)] (by kernel_rfl) (by kernel_rfl) (by intro c st h; simp [Ag, B6, Un] at h) ?_
 (repeat (first | (refine UH rfl rfl rfl ?_; intro K1 hK1; simp only [undef, Ux, go_sem, Bw, FL hg2]; first | (refine hK1 _ ?_; clear hK1 K1) | (refine Aw (hK1 _ ?_); clear hK1 K1)) | (refine UI rfl rfl rfl rfl rfl rfl rfl rfl rfl ?_; intro K1 hK1; simp only [undef, Ux, go_sem, Bw, FL hg2]; first | (refine hK1 _ ?_; clear hK1 K1) | (refine Aw (hK1 _ ?_); clear hK1 K1))))
 (refine UJ rfl rfl ?_; intro K1 hK1; refine BV (ids := []) [0] (K5 T hT a2 (by omega)) rfl rfl (by simp only [Ux, go_sem]) (by kernel_rfl) rfl rfl rfl (by (simp only [Ux, E7, List.map_append, List.append_nil, AV.ren, A0.ren, C.ren, idx, D7, D2, go_sem]) <;> rfl) (by (simp only [Um, Ob.ren, C.ren, idx, D7, D2, List.getD_cons_zero, List.getD_cons_succ, tape, go_sem]) <;> rfl) ?_ ?_)
 ·rintro _ _ ⟨rfl, v, rfl, _⟩; exact GS rfl
 rintro _ _ ⟨rfl, e, rfl, he⟩
 (simp only [AC, BS, tape, D3, List.append_nil, List.nil_append, List.length_map, go_sem]; refine hK1 _ ?_; clear hK1 K1)
 (repeat (first | (refine UH rfl rfl rfl ?_; intro K1 hK1; simp only [undef, Ux, go_sem]; first | (refine hK1 _ ?_; clear hK1 K1) | (refine Aw (hK1 _ ?_); clear hK1 K1)) | (refine UI rfl rfl rfl rfl rfl rfl rfl rfl rfl ?_; intro K1 hK1; simp only [undef, Ux, go_sem]; first | (refine hK1 _ ?_; clear hK1 K1) | (refine Aw (hK1 _ ?_); clear hK1 K1))))
 (refine UJ rfl rfl ?_; intro K1 hK1; refine BV (ids := []) [0] (H3 T (a2 + 1) (m + 1) hT (by omega) (by omega)) rfl rfl (by simp only [Ux, go_sem]) (by kernel_rfl) rfl rfl rfl (by (simp only [Ux, E7, List.map_append, List.append_nil, AV.ren, A0.ren, C.ren, idx, D7, D2, go_sem]) <;> rfl) (by (simp only [Um, Ob.ren, C.ren, idx, D7, D2, List.getD_cons_zero, List.getD_cons_succ, tape, go_sem]) <;> rfl) ?_ ?_)
 ·rintro _ _ ⟨rfl, v, rfl, _⟩; exact GS rfl
 rintro _ _ ⟨rfl, t, rfl, ht⟩
 (simp only [AC, BS, tape, D3, List.append_nil, List.nil_append, List.length_map, go_sem]; refine hK1 _ ?_; clear hK1 K1)
 (repeat (first | (refine UH rfl rfl rfl ?_; intro K1 hK1; simp only [undef, Ux, go_sem]; first | (refine hK1 _ ?_; clear hK1 K1) | (refine Aw (hK1 _ ?_); clear hK1 K1)) | (refine UI rfl rfl rfl rfl rfl rfl rfl rfl rfl ?_; intro K1 hK1; simp only [undef, Ux, go_sem]; first | (refine hK1 _ ?_; clear hK1 K1) | (refine Aw (hK1 _ ?_); clear hK1 K1))))
 (refine UJ rfl rfl ?_; intro K1 hK1; refine BW ?_; refine BV (ids := []) [] (LZ R2[i] (e, (t : Int)) (by have := hrow.2.1; omega)) rfl rfl (by simp only [Ux, go_sem]) (by kernel_rfl) rfl rfl rfl (by (simp only [Ux, E7, List.map_append, List.append_nil, AV.ren, A0.ren, C.ren, idx, D7, D2, go_sem]) <;> rfl) (by (simp only [Um, Ob.ren, C.ren, idx, D7, D2, List.getD_cons_zero, List.getD_cons_succ, IL, go_sem]) <;> rfl) ?_ ?_)
 ·rintro _ _ ⟨rfl, rfl⟩ i o hi hl; simp at hl
 rintro _ _ ⟨rfl, rfl⟩
 (simp only [AC, BS, IL, D3, List.append_nil, List.nil_append, List.length_map, go_sem]; refine hK1 _ ?_; clear hK1 K1)
 (repeat (first | (refine UH rfl rfl rfl ?_; intro K1 hK1; simp only [undef, Ux, go_sem]; first | (refine hK1 _ ?_; clear hK1 K1) | (refine Aw (hK1 _ ?_); clear hK1 K1)) | (refine UI rfl rfl rfl rfl rfl rfl rfl rfl rfl ?_; intro K1 hK1; simp only [undef, Ux, go_sem]; first | (refine hK1 _ ?_; clear hK1 K1) | (refine Aw (hK1 _ ?_); clear hK1 K1))))
 refine UK rfl rfl rfl ?_; intro K1 hK1
 refine BF rfl ?_; simp only [undef, Ux, ST.put, Dp, A0.cells, Bw, List.set_cons_zero, List.set_cons_succ, HY, go_sem]
 (first | (refine hK1 _ ?_; clear hK1 K1) | (refine Aw (hK1 _ ?_); clear hK1 K1))
 refine Qb ⟨by simp, by simp, ?_⟩
 refine hK _ ?_; clear hK K
 (refine UW ?_;(repeat clear hK K);repeat refine kq fun K hK=>?_)
 refine V6 ?_
 have hx : 0 <= e /\ e <= 1025 /\ 0 <= (t : Int) /\ (t : Int) < ((m + 1 : Nat) : Int) := ⟨he.1, he.2, by omega, by omega⟩
 have e1 : ((w : Int) - 1) = ((w - 1 : Nat) : Int) := by omega
 have hw3 := hi2 _ hg2
 refine hK _ (w - 1, R2.set i (Db (e, (t : Int)) R2[i]), a2 + 2) ⟨by simp only; omega, by simp only; omega, hR2.set ?_ i, fun r hr => ?_, fun q r hq hr => ?_⟩ (by simp only; omega) ?_
 rotate_left 2
 ·simp only at hr
  rw [gE5 (by omega)] at hr
  exact hE2 q r hq hr
 ·(refine BJ ?_; simp only [DG, go_sem, e1]; try simp)
 ·exact (OkRow.ins ⟨hrow.1, Nat.le_refl _, hrow.2.2⟩ hx).le (by omega)
 simp only at hr ⊢
 rw [gEc hl2] at hr
 cases hr
 have := Fd (e, (t : Int)) R2[i]
 omega

set_option maxHeartbeats 1000000 in
theorem P9 (T : List Int) (hT : TpOk T) (a0 n : Nat) (ha : a0 <= 500000) (hn1 : 1 <= n) (hn : n <= 20) :
  FC Tryd.prog 6 [.a (.c (.p 0 0)), .i n] [tape T a0] (fun r o => ∃ (a' : Nat) (R : List (List Ar)), o = [tape T a', Sj R] /\ r = CC R /\ a' <= a0 + 1 + 8 * n /\ 1 <= R.length /\ R.length <= n /\ OkSys 4 R.length R) := by
 refine Af Tryd.func6 rfl (by rw [Tryd.ntmps6]; simp) ?_
 rw [Tryd.ntmps6]
 simp only [C2, tape, Sj, CC]
 (refine UW ?_;(repeat clear hK K);repeat refine kq fun K hK=>?_)
 (refine Aa rfl ?_; intro K1 hK1; refine ct [0] (Rv T hT a0 n (by omega) hn1 hn) ?_ ?_)
 ·rintro _ _ ⟨_, _, rfl, rfl, _⟩; rfl
 rintro _ _ ⟨a1, R0, rfl, rfl, ha1, hl1, hl2, hok⟩
 (simp only [AC, BS, tape, D3, List.append_nil, List.nil_append, List.length_map, go_sem]; refine hK1 _ ?_; clear hK1 K1)
 (refine UW ?_;(repeat clear hK K);repeat refine kq fun K hK=>?_)
 refine AO (Ae [0, 1, 2, 4] rfl rfl) ?_
 (try simp only [List.set_nil, List.take_nil, List.take_zero, List.map_append, go_sem])
 (try simp only [Dg])
 obtain ⟨m, hm⟩ : ∃ m, m = R0.length := ⟨_, rfl⟩
 rw [<- hm] at hl1 hl2 hok
 (try rw [<- hm])
 refine Ab (fun p : Nat × List (List Ar) × Nat => { tm := [(0, .a (.c (.p 0 0))), (4, .a (.c (.p 1 0))), (5, .a (.c (.p 3 0))), (6, .i p.1)], hp := [.r ⟨41, 2, false, [.t 1 (Ad T), .v (.int .i64 p.2.2)]⟩, .r ⟨27, 1, false, [.v (.slice none 0 0)]⟩, .r ⟨38, 1, true, Bm p.2.1⟩, .r ⟨27, 1, false, [.s 2 m]⟩], n := 34, pin := 1 })
  (fun p => p.1 + 1 <= m /\ p.2.2 <= a1 + p.1 /\ OkSys 4 m p.2.1 /\ ∀ q r, p.1 <= q -> p.2.1[q]? = some r -> r.length <= 3) (fun p => m - p.1) (0, R0, a1) ?_ ?_ ?_
 ·exact ⟨by simp only; omega, by simp, hok.le (by omega), fun q r _ hr => (hok.2 r (gE9 hr)).2.1⟩
 ·exact V7
 rintro ⟨s, R, a⟩ ⟨hs, hA, hR, hE⟩ K hK
 simp only at hs hA hR hE ⊢
 have hRl := hR.1
 by_cases hlt : s + 1 < m
 rotate_left
 ·have hl0 : decide ((s : Int) + 1 < (m : Int)) = false := by simp; omega
  (refine UX @hl0 ?_;(repeat clear hK K);repeat refine kq fun K hK=>?_)
  refine V5 ?_
  (refine V0 ?_;repeat clear hK K)
  refine AO (Be (r := ⟨38, 1, true, Bm R⟩) (ri := ⟨27, 1, false, [.s 2 m]⟩) (ts := Ao R) 3 0 2 m (by decide) rfl rfl rfl rfl (show 0 < 1 by omega) (by simp only [Bw, hRl]; omega) (KH R)) ?_
  refine AO (FB 3 rfl) ?_
  simp only [Ur, List.map_cons, List.map_nil, go_sem]
  (refine UW ?_;(repeat clear hK K);repeat refine kq fun K hK=>?_)
  refine V8 [0, 1] Tryd.results6 ?_
  exact ⟨a, R, rfl, rfl, by omega, by omega, by omega, by rw [hRl]; exact hR⟩
 have hl0 : decide ((s : Int) + 1 < (m : Int)) = true := by simp; omega
 have hl2' : s < R.length := by omega
 have hg2 := gE1 hl2'
 have hrow := hR.2 _ (gE6 hl2')
 have hne : (Bm R).isEmpty = false := by
  have := Bw R
  cases hc : Bm R with
  | nil => rw [hc] at this; simp at this; omega
  | cons _ _ => rfl
 (refine UX @hl0 ?_;(repeat clear hK K);repeat refine kq fun K hK=>?_)
 refine V4 ?_
 (refine UW ?_;(repeat clear hK K);repeat refine kq fun K hK=>?_)
 (refine B2 [2, 3] (.m 0 0 0 (.m 2 0 0 (.m 3 0 0 (.m 5 0 0 (.m 8 0 0 (.m 10 0 0 (.m 11 0 0 (.m 1 1 15 (.m 4 1 13 (.m 6 0 0 (.m 7 1 13 (.a 9 (.m 12 0 0 (.a 13 (.m 14 0 0 (.a 15 .e)))))))))))))))) (by kernel_rfl) (by kernel_rfl) (by intro c st h; simp [Ag, B6, Un] at h) ?_)
 (refine UZ (an @Bw (FL hg2)) ?_; repeat clear hK K)
 (refine Lb rfl rfl rfl ?_; intro K1 hK1; refine yX [0] ?_; refine xy [0] (K5 T hT a (by omega)) ?_ ?_)
 ·rintro _ _ ⟨rfl, v, rfl, _⟩; exact GS rfl
 rintro _ _ ⟨rfl, e, rfl, he⟩
 (simp only [AC, BS, tape, D3, List.append_nil, List.nil_append, List.length_map, go_sem]; refine hK1 _ ?_; clear hK1 K1)
 (refine UY ?_; repeat clear hK K)
 (refine Lb rfl rfl rfl ?_; intro K1 hK1; refine yX [] ?_; refine BV (ids := []) [] (LZ R[s] (e, (s : Int) + 1) (by have := hrow.2.1; omega)) rfl rfl (by simp only [go_sem]) (by kernel_rfl) rfl rfl rfl (by (simp only [go_sem]) <;> rfl) (by (simp only [Um, IL, go_sem]) <;> rfl) ?_ ?_)
 ·rintro _ _ ⟨rfl, rfl⟩ i o hi hl; simp at hl
 rintro _ _ ⟨rfl, rfl⟩
 (simp only [AC, BS, IL, D3, List.append_nil, List.nil_append, List.length_map, go_sem]; refine hK1 _ ?_; clear hK1 K1)
 (refine UY ?_; repeat clear hK K)
 (refine UO rfl rfl rfl rfl ?_; intro K1 hK1; refine BF rfl ?_; simp only [go_sem, ST.put, Dp, A0.cells, Bw, HY]; (first | refine hK1 _ ?_ | refine Aw (hK1 _ ?_)); clear hK1 K1)
 (refine UY ?_; repeat clear hK K)
 (refine UW ?_;(repeat clear hK K);repeat refine kq fun K hK=>?_)
 refine V6 ?_
 have hx : 0 <= e /\ e <= 1025 /\ 0 <= (s : Int) + 1 /\ (s : Int) + 1 < (m : Int) := ⟨he.1, he.2, by omega, by omega⟩
 have h3 := hE s _ (Nat.le_refl _) hg2
 refine hK _ (s + 1, R.set s (Db (e, (s : Int) + 1) R[s]), a + 1) ⟨by simp only; omega, by simp only; omega, hR.set ?_ s, fun q r hq hr => ?_⟩ (by simp only; omega) ?_
 rotate_left 2
 ·exact V7
 ·exact (OkRow.ins (m := m) ⟨hrow.1, h3, hrow.2.2⟩ hx)
 simp only at hr hq
 rw [gE5 (by omega)] at hr
 exact hE q r (by omega) hr
end Go.Proofs.YthnkailnoobdoaaDoor
