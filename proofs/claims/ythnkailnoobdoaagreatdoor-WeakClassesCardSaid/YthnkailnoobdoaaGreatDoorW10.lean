/- Lemmas. -/
import Derived.Test.YthnkailnoobdoaaGreatDoorZk
import Derived.Test.YthnkailnoobdoaaGreatDoorOd1
import Derived.Test.YthnkailnoobdoaaGreatDoorW07
import Derived.Test.YthnkailnoobdoaaGreatDoorG84
import Derived.Test.YthnkailnoobdoaaGreatDoorG72
import Derived.Test.YthnkailnoobdoaaGreatDoorG69
namespace Go.Proofs.YthnkailnoobdoaaGreatDoor
set_option linter.unusedVariables false
set_option linter.unusedSimpArgs false
open Go.RowKit
set_option maxRecDepth 100000
attribute [local go_sem] lga C.pl C.one

set_option maxHeartbeats 1000000 in
theorem IR : FC Tryz.prog 11 [.a (.c (.v (.slice none 0 0))), .a (.c (.v (.slice none 0 0)))] [] (fun r o => o = [] /\ r = .b true) := by
 refine A9 Tryz.func11 rfl (by rw [Tryz.ntmps11]; simp) ?_
 rw [Tryz.ntmps11]
 simp only [Bz]
 have d0 : (((0 : Nat) : Int) != ((0 : Nat) : Int)) = false := by simp
 (refine Wf @d0 ?_;(repeat clear hK K);repeat refine kq fun K hK=>?_)
 refine Wm ?_
 (refine We ?_;(repeat clear hK K);repeat refine kq fun K hK=>?_)
 refine A6 (fun k : Nat => { tm := [(0, .a (.c (.v (.slice none 0 0)))), (1, .a (.c (.v (.slice none 0 0)))), (5, .i k)], hp := [], n := 26, pin := 0 }) (fun k => k <= 0) (fun k => 0 - k) 0 ?_ ?_ ?_
 ·omega
 ·exact Wo
 rintro k hk K hK
 have hk0 : k = 0 := by omega
 subst hk0
 (refine We ?_;(repeat clear hK K);repeat refine kq fun K hK=>?_)
 (refine AA ?_; intro X Y hX hY; simp only [go_sem])
 refine ⟨fun h => absurd h (by simp), fun _ => hY ?_⟩
 clear hX hY X Y
 (refine Wi ?_;repeat clear hK K)
 (refine We ?_;(repeat clear hK K);repeat refine kq fun K hK=>?_)
 exact T2 [] Tryz.results11
theorem SP (T : List Int) (hT : TpOk T) (a0 : Nat) (ha : a0 <= 500000) :
  FC Tryz.prog 7 [.a (.c (.p 0 0)), .i 7] [tape T a0] (fun r o => ∃ (a' : Nat) (R : List (List Ar)), (o = [tape T a', KN R] /\ r = Bh R) /\ a' <= a0 + 60 /\ BL R = true /\ R.length <= 7 /\ AN R <= 200 /\ ∀ r ∈ R, r.length <= 1000000) :=
 (TG T hT a0 7 (by omega) (by omega) (by omega)).mono fun r o ⟨a', R, h0, h1, h2, h3, h4, h5⟩ => by
  obtain ⟨q1, q2, q3⟩ := QF h5 rfl h3 (by omega) (by omega)
  exact ⟨a', R, ⟨h0, h1⟩, by omega, q1, h4, q2, fun r hr => by have := q3 r hr; omega⟩
theorem Qf (T : List Int) (hT : TpOk T) (a0 : Nat) (ha : a0 <= 500000) :
  FC Tryz.prog 8 [.a (.c (.p 0 0)), .i 7] [tape T a0] (fun r o => ∃ (a' : Nat) (R : List (List Ar)), (o = [tape T a', KN R] /\ r = Bh R) /\ a' <= a0 + 60 /\ BL R = true /\ 1 <= R.length /\ R.length <= 7 /\ AN R <= 200 /\ (∀ r ∈ R, r.length <= 10) /\ OkSys 4 R.length R) :=
 (SF T hT a0 7 (by omega) (by omega) (by omega)).mono fun r o ⟨a', R, h0, h2, h3, h4, h5⟩ => by
  obtain ⟨q1, q2, q3⟩ := QF h5 rfl h3 (by omega) (by omega)
  exact ⟨a', R, h0, by omega, q1, h3, h4, q2, q3, h5⟩
set_option maxHeartbeats 8000000 in
theorem On (T : List Int) (hT : TpOk T) (R0 : List (List Ar)) (hn0 : R0.length <= 140737488355328) (hr0 : ∀ r ∈ R0, r.length <= 140737488355328) : FC Tryz.prog 3 [Aq T, Bh R0] [] (fun r _ => r = .b true) := by
 refine A9 Tryz.func3 rfl (by rw [Tryz.ntmps3]; simp) ?_
 rw [Tryz.ntmps3]
 simp only [Bz, Aq, Bh]
 (refine We ?_;(repeat clear hK K);repeat refine kq fun K hK=>?_)
 (refine Wj (Tu T) ?_; intro K1 hK1)
 rintro _ _ ⟨rfl, rfl⟩
 (simp only [Aq, Bc, tape, List.append_nil, List.nil_append, List.length_map, go_sem]; refine hK1 _ ?_; clear hK1 K1)
 (refine We ?_;(repeat clear hK K);repeat refine kq fun K hK=>?_)
 refine A6 (fun p : Nat × Nat => { tm := [(3, .a (.c (.p 0 0))), (5, .a (.c (.p 1 0))), (6, .i p.1)], hp := [.r ⟨25, 1, false, [.t 1 (Ai R0)]⟩, .r ⟨43, 2, false, [.t 1 (Aa T), .v (.int .i64 p.2)]⟩], n := 51, pin := 0 }) (fun p => p.1 <= 3 /\ p.2 <= 300 * p.1) (fun p => 3 - p.1) (0, 0) ?_ ?_ ?_
 ·exact ⟨by simp, by simp⟩
 ·exact Wo
 rintro ⟨k, a⟩ ⟨hk, ha⟩ K hK
 simp only at hk ha ⊢
 (refine We ?_;(repeat clear hK K);repeat refine kq fun K hK=>?_)
 (refine AA ?_; intro X Y hX hY; simp only [go_sem])
 refine ⟨fun h => hX ?_, fun h => hY ?_⟩
 rotate_left
 ·clear hX hY X Y
  (refine Wi ?_;repeat clear hK K)
  (refine We ?_;(repeat clear hK K);repeat refine kq fun K hK=>?_)
  (refine BJ [] [(0, 1, 1), (1, 2, 0), (2, 0, 0), (3, 1, 4), (5, 1, 6), (4, 2, 0), (6, 2, 0), (7, 2, 0), (8, 0, 0), (9, 2, 0), (10, 0, 0), (11, 0, 0), (12, 2, 0)] (by kernel_rfl) (by kernel_rfl) (by intro c st h; simp [Ae, AJ, VD] at h) ?_)
  (refine Wc ?_; repeat clear hK K)
  (refine W0 rfl rfl ?_; intro K1 hK1; refine Au ?_; refine xv [] (SD R0 hn0 hr0) ?_ ?_)
  ·rintro _ _ ⟨rfl, rfl⟩ i o hi hl; simp at hl
  rintro _ _ ⟨rfl, rfl⟩
  (refine Wk ?_; clear hK1 K1)
  cases hb : HO R0 with
  | true =>
   (refine Wc ?_; repeat clear hK K)
   (refine W1 rfl rfl rfl ?_; intro K1 hK1; refine B4 rfl ?_; simp only [go_sem]; (first | refine hK1 _ ?_ | refine AE (hK1 _ ?_)); clear hK1 K1)
   (refine Wc ?_; repeat clear hK K)
   (refine We ?_;(repeat clear hK K);repeat refine kq fun K hK=>?_)
   exact P0 Tryz.results3
  | false =>
   have hb2 : R0.length <= 12 /\ AN R0 <= 60 := by
    unfold HO at hb
    simp only [Bool.or_eq_false_iff, decide_eq_false_iff_not] at hb
    omega
   have hR6 : ∀ r ∈ R0, r.length <= 1000000 := fun r h => by have := PB r h; omega
   cases hz : BL R0 with
   | true =>
    (refine Wc ?_; repeat clear hK K)
    (refine IV rfl rfl rfl (by simp only [go_sem] <;> rfl) ?_; intro K1 hK1; refine Au ?_; refine xv [] (Hb R0 hz (by omega) hR6) ?_ ?_)
    ·rintro _ _ ⟨_, _, _, rfl, rfl⟩ i o hi hl; simp at hl
    rintro _ _ ⟨cx, hcx, hNx, rfl, rfl⟩
    (refine Wk ?_; clear hK1 K1)
    (refine Wc ?_; repeat clear hK K)
    (refine IV rfl rfl rfl (by simp only [go_sem] <;> rfl) ?_; intro K1 hK1; refine Au ?_; refine xv [] (L9 R0 hz (by omega) hR6) ?_ ?_)
    ·rintro _ _ ⟨_, _, _, rfl, rfl⟩ i o hi hl; simp at hl
    rintro _ _ ⟨dx, hdx, hMx, rfl, rfl⟩
    obtain rfl := WkC.uniq hcx hdx
    have hlx := hNx.len
    (refine Wk ?_; clear hK1 K1)
    (refine Wc ?_; repeat clear hK K)
    (refine IV rfl rfl rfl (by simp only [go_sem] <;> rfl) ?_; intro K1 hK1; refine Au ?_; refine xv [] (DX cx cx (by omega) (by omega)) ?_ ?_)
    ·rintro _ _ ⟨rfl, rfl⟩ i o hi hl; simp at hl
    rintro _ _ ⟨rfl, rfl⟩
    clear hcx hdx hNx hMx
    (refine Wk ?_; clear hK1 K1)
    (try simp only [eq_self, decide_true])
    (refine Wc ?_; repeat clear hK K)
    (refine IV rfl rfl rfl (by simp only [go_sem] <;> rfl) ?_; intro K1 hK1; refine Au ?_; refine xv [] (Hf) ?_ ?_)
    ·rintro _ _ rfl i o hi hl; simp at hl
    rintro _ _ rfl
    (refine Wk ?_; clear hK1 K1)
    (refine Wc ?_; repeat clear hK K)
    (refine W1 rfl rfl rfl ?_; intro K1 hK1; refine B4 rfl ?_; simp only [go_sem]; (first | refine hK1 _ ?_ | refine AE (hK1 _ ?_)); clear hK1 K1)
    (refine Wc ?_; repeat clear hK K)
    (refine We ?_;(repeat clear hK K);repeat refine kq fun K hK=>?_)
    exact P0 Tryz.results3
   | false =>
    (refine Wc ?_; repeat clear hK K)
    (refine IV rfl rfl rfl (by simp only [go_sem] <;> rfl) ?_; intro K1 hK1; refine Au ?_; refine xv [] (QQ R0 hz (by omega) hR6) ?_ ?_)
    ·rintro _ _ ⟨rfl, rfl⟩ i o hi hl; simp at hl
    rintro _ _ ⟨rfl, rfl⟩
    (refine Wk ?_; clear hK1 K1)
    (refine Wc ?_; repeat clear hK K)
    (refine IV rfl rfl rfl (by simp only [go_sem] <;> rfl) ?_; intro K1 hK1; refine Au ?_; refine xv [] (QP R0 hz (by omega) (fun r h => Nat.le_trans (hR6 r h) (by omega))) ?_ ?_)
    ·rintro _ _ ⟨rfl, rfl⟩ i o hi hl; simp at hl
    rintro _ _ ⟨rfl, rfl⟩
    (refine Wk ?_; clear hK1 K1)
    (refine Wc ?_; repeat clear hK K)
    (refine IV rfl rfl rfl (by simp only [go_sem] <;> rfl) ?_; intro K1 hK1; refine Au ?_; refine xv [] (IR) ?_ ?_)
    ·rintro _ _ ⟨rfl, rfl⟩ i o hi hl; simp at hl
    rintro _ _ ⟨rfl, rfl⟩
    (refine Wk ?_; clear hK1 K1)
    (refine Wc ?_; repeat clear hK K)
    (refine IV rfl rfl rfl (by simp only [go_sem] <;> rfl) ?_; intro K1 hK1; refine Au ?_; refine xv [] (Hf) ?_ ?_)
    ·rintro _ _ rfl i o hi hl; simp at hl
    rintro _ _ rfl
    (refine Wk ?_; clear hK1 K1)
    (refine Wc ?_; repeat clear hK K)
    (refine W1 rfl rfl rfl ?_; intro K1 hK1; refine B4 rfl ?_; simp only [go_sem]; (first | refine hK1 _ ?_ | refine AE (hK1 _ ?_)); clear hK1 K1)
    (refine Wc ?_; repeat clear hK K)
    (refine We ?_;(repeat clear hK K);repeat refine kq fun K hK=>?_)
    exact P0 Tryz.results3
 have hlt : k < 3 := by simp at h; omega
 clear hX hY X Y h
 (refine We ?_;(repeat clear hK K);repeat refine kq fun K hK=>?_)
 (refine Ad rfl ?_; intro K1 hK1; refine ct [1] (SP T hT a (by omega)) ?_ ?_)
 ·rintro _ _ ⟨_, _, ⟨rfl, rfl⟩, _⟩; rfl
 rintro _ _ ⟨a1, U, ⟨rfl, rfl⟩, ha1, hUv, hUn, hUt, hUr⟩
 (simp only [Aq, Bc, tape, KN, Bh, List.append_nil, List.nil_append, List.length_map, go_sem]; refine hK1 _ ?_; clear hK1 K1)
 (refine Oy ?_;(repeat clear hK K);repeat refine kq fun K hK=>?_)
 (refine Ad rfl ?_; intro K1 hK1; refine ct [1] (Qf T hT a1 (by omega)) ?_ ?_)
 ·rintro _ _ ⟨_, _, ⟨rfl, rfl⟩, _⟩; rfl
 rintro _ _ ⟨a2, V, ⟨rfl, rfl⟩, ha2, hVv, hV1, hVn, hVt, hVr, hVo⟩
 (simp only [Aq, Bc, tape, KN, Bh, List.append_nil, List.nil_append, List.length_map, go_sem]; refine hK1 _ ?_; clear hK1 K1)
 (refine Oy ?_;(repeat clear hK K);repeat refine kq fun K hK=>?_)
 refine Hw hK (fun x : Nat × List (List Ar) => { tm := [(3, .a (.c (.p 0 0))), (5, .a (.c (.p 1 0))), (6, .i k), (7, .a (.c (.p 2 0))), (9, .a (.c (.p 3 0)))], hp := [.r ⟨25, 1, false, [.t 1 (Ai R0)]⟩, .r ⟨43, 2, false, [.t 1 (Aa T), .v (.int .i64 x.1)]⟩, .r ⟨25, 1, false, [.t 1 (Ai U)]⟩, .r ⟨25, 1, false, [.t 1 (Ai (CL V x.2))]⟩], n := 51, pin := 0 }) (fun x => x.1 <= a2 + 6 /\ JH V x.2) ?_ ?_
 ·clear hK
  intro hK
  (refine AD [5] (.m 0 1 4 (.m 1 0 0 (.m 2 1 3 (.f 3 (.f 4 (.a 5 (.a 6 .e)) 5 (.a 4 (.a 6 .e))) 5 (.a 3 (.a 4 (.a 6 .e))))))) (by kernel_rfl) (by kernel_rfl) (by intro c st h; simp [Ae, AJ, VD] at h) ?_)
  (refine Wg ?_; repeat clear hK K)
  refine W6 ?_ ?_
  ·(refine EY rfl rfl rfl ?_; intro K1 hK1; refine yX [1] ?_; refine xy [1] (Hc T hT a2 V (by omega) hV1 (by omega) (fun r h => ⟨hVr r h, fun x hx => (hVo.2 r h).2.2 x hx⟩)) ?_ ?_)
   ·rintro _ _ ⟨_, _, ⟨rfl, rfl⟩, _⟩ i o hi hl
    have h0 : i = 0 := by simp at hl; exact hl
    subst h0
    simp at hi
    subst hi
    rfl
   rintro _ _ ⟨a3, W, ⟨rfl, rfl⟩, ha3, hWl, hWr⟩
   (simp only [Aq, Bc, tape, KN, Bh, List.append_nil, List.nil_append, List.length_map, go_sem]; refine hK1 _ ?_; clear hK1 K1)
   (refine Wg ?_; repeat clear hK K)
   refine W6 ?_ ?_
   ·(refine EY rfl rfl rfl ?_; intro K1 hK1; refine yX [] ?_; refine xz [] (JG V W (by omega) (by omega) (fun r h => by have := (hWr r h).1; omega) (fun r h x hx => by have := (hWr r h).2 x hx; omega)) ?_ ?_)
    ·rintro _ _ ⟨rfl, rfl⟩ i o hi hl; simp at hl
    rintro _ _ ⟨rfl, rfl⟩
    (simp only [Aq, Bc, Bh, List.append_nil, List.nil_append, List.length_map, go_sem]; refine hK1 _ ?_; clear hK1 K1)
    (refine Wg ?_; repeat clear hK K)
    (refine W4 rfl rfl ?_; intro K1 hK1; refine BF rfl ?_; simp only [go_sem]; (first | refine hK1 _ ?_ | refine AE (hK1 _ ?_)); clear hK1 K1)
    (refine W5 rfl rfl rfl rfl ?_; intro K1 hK1; refine B4 rfl ?_; simp only [go_sem, ST.put, Dr, A0.cells]; (first | refine hK1 _ ?_ | refine AE (hK1 _ ?_)); clear hK1 K1)
    refine Cg ⟨by simp, by simp, ?_⟩
    (try simp only [Ae, AJ])
    refine hK _ (a3, W) ⟨ha3, hWl, hWr⟩ ?_
    refine Le.trans (A8 [0, 1, 3, 8] rfl rfl) ?_
    (try simp only [List.set_nil, List.take_nil, List.take_zero, List.map_append, go_sem])
    exact Wo
   ·(refine W4 rfl rfl ?_; intro K1 hK1; refine BF rfl ?_; simp only [go_sem]; (first | refine hK1 _ ?_ | refine AE (hK1 _ ?_)); clear hK1 K1)
    (refine EY rfl rfl rfl ?_; intro K1 hK1; refine yX [] ?_; refine xz [] (JG V W (by omega) (by omega) (fun r h => by have := (hWr r h).1; omega) (fun r h x hx => by have := (hWr r h).2 x hx; omega)) ?_ ?_)
    ·rintro _ _ ⟨rfl, rfl⟩ i o hi hl; simp at hl
    rintro _ _ ⟨rfl, rfl⟩
    (simp only [Aq, Bc, Bh, List.append_nil, List.nil_append, List.length_map, go_sem]; refine hK1 _ ?_; clear hK1 K1)
    (refine Wg ?_; repeat clear hK K)
    (refine W5 rfl rfl rfl rfl ?_; intro K1 hK1; refine B4 rfl ?_; simp only [go_sem, ST.put, Dr, A0.cells]; (first | refine hK1 _ ?_ | refine AE (hK1 _ ?_)); clear hK1 K1)
    refine Cg ⟨by simp, by simp, ?_⟩
    (try simp only [Ae, AJ])
    refine hK _ (a3, W) ⟨ha3, hWl, hWr⟩ ?_
    refine Le.trans (A8 [0, 1, 3, 7] rfl rfl) ?_
    (try simp only [List.set_nil, List.take_nil, List.take_zero, List.map_append, go_sem])
    exact Wo
  ·(refine W4 rfl rfl ?_; intro K1 hK1; refine BF rfl ?_; simp only [go_sem]; (first | refine hK1 _ ?_ | refine AE (hK1 _ ?_)); clear hK1 K1)
   (refine EY rfl rfl rfl ?_; intro K1 hK1; refine yX [1] ?_; refine xy [1] (Hc T hT a2 V (by omega) hV1 (by omega) (fun r h => ⟨hVr r h, fun x hx => (hVo.2 r h).2.2 x hx⟩)) ?_ ?_)
   ·rintro _ _ ⟨_, _, ⟨rfl, rfl⟩, _⟩ i o hi hl
    have h0 : i = 0 := by simp at hl; exact hl
    subst h0
    simp at hi
    subst hi
    rfl
   rintro _ _ ⟨a3, W, ⟨rfl, rfl⟩, ha3, hWl, hWr⟩
   (simp only [Aq, Bc, tape, KN, Bh, List.append_nil, List.nil_append, List.length_map, go_sem]; refine hK1 _ ?_; clear hK1 K1)
   (refine Wg ?_; repeat clear hK K)
   (refine EY rfl rfl rfl ?_; intro K1 hK1; refine yX [] ?_; refine xz [] (JG V W (by omega) (by omega) (fun r h => by have := (hWr r h).1; omega) (fun r h x hx => by have := (hWr r h).2 x hx; omega)) ?_ ?_)
   ·rintro _ _ ⟨rfl, rfl⟩ i o hi hl; simp at hl
   rintro _ _ ⟨rfl, rfl⟩
   (simp only [Aq, Bc, Bh, List.append_nil, List.nil_append, List.length_map, go_sem]; refine hK1 _ ?_; clear hK1 K1)
   (refine Wg ?_; repeat clear hK K)
   (refine W5 rfl rfl rfl rfl ?_; intro K1 hK1; refine B4 rfl ?_; simp only [go_sem, ST.put, Dr, A0.cells]; (first | refine hK1 _ ?_ | refine AE (hK1 _ ?_)); clear hK1 K1)
   refine Cg ⟨by simp, by simp, ?_⟩
   (try simp only [Ae, AJ])
   refine hK _ (a3, W) ⟨ha3, hWl, hWr⟩ ?_
   refine Le.trans (A8 [0, 1, 3, 6] rfl rfl) ?_
   (try simp only [List.set_nil, List.take_nil, List.take_zero, List.map_append, go_sem])
   exact Wo
 clear hK K
 rintro ⟨a3, W⟩ ⟨ha3, hWl, hWr⟩
 simp only at ha3 hWl hWr ⊢
 (refine We ?_;(repeat clear hK K);repeat refine kq fun K hK=>?_)
 have hVt := EK hVr
 have hWt := EK (fun r h => (hWr r h).1)
 have hZr : ∀ r ∈ CL V W, r.length <= 1000000 := RE (fun r h => by have := hVr r h; omega) (fun r h => by have := (hWr r h).1; omega)
 have hZn : (CL V W).length <= 14 := by rw [Ck]; omega
 have hZt : AN (CL V W) <= 1000 := by rw [PC]; omega
 generalize CL V W = Z at *
 cases hz : BL Z with
 | true =>
  (refine BJ [] [(0, 1, 1), (2, 1, 3), (1, 2, 0), (3, 2, 0), (4, 2, 0), (5, 0, 0), (6, 0, 0), (7, 1, 8), (9, 1, 10), (8, 2, 0), (10, 2, 0), (11, 2, 0), (12, 0, 0), (13, 2, 0)] (by kernel_rfl) (by kernel_rfl) (by intro c st h; simp [Ae, AJ, VD] at h) ?_)
  (refine Wc ?_; repeat clear hK K)
  (refine W0 rfl rfl ?_; intro K1 hK1; refine Au ?_; refine xv [] (Hb U hUv (by omega) hUr) ?_ ?_)
  ·rintro _ _ ⟨_, _, _, rfl, rfl⟩ i o hi hl; simp at hl
  rintro _ _ ⟨cx, hcx, hNx, rfl, rfl⟩
  (refine Wk ?_; clear hK1 K1)
  (refine Wc ?_; repeat clear hK K)
  (refine W0 rfl rfl ?_; intro K1 hK1; refine Au ?_; refine xv [] (L9 U hUv (by omega) hUr) ?_ ?_)
  ·rintro _ _ ⟨_, _, _, rfl, rfl⟩ i o hi hl; simp at hl
  rintro _ _ ⟨dx, hdx, hMx, rfl, rfl⟩
  obtain rfl := WkC.uniq hcx hdx
  have hlx := hNx.len
  (refine Wk ?_; clear hK1 K1)
  (refine Wc ?_; repeat clear hK K)
  (refine W0 rfl rfl ?_; intro K1 hK1; refine Au ?_; refine xv [] (DX cx cx (by omega) (by omega)) ?_ ?_)
  ·rintro _ _ ⟨rfl, rfl⟩ i o hi hl; simp at hl
  rintro _ _ ⟨rfl, rfl⟩
  clear hcx hdx hNx hMx
  (refine Wk ?_; clear hK1 K1)
  (try simp only [eq_self, decide_true])
  (refine Wd @Bool.not_true ?_; repeat clear hK K)
  (refine IV rfl rfl rfl (by simp only [go_sem] <;> rfl) ?_; intro K1 hK1; refine Au ?_; refine xv [] (Hb Z hz (by omega) hZr) ?_ ?_)
  ·rintro _ _ ⟨_, _, _, rfl, rfl⟩ i o hi hl; simp at hl
  rintro _ _ ⟨cx, hcx, hNx, rfl, rfl⟩
  (refine Wk ?_; clear hK1 K1)
  (refine Wc ?_; repeat clear hK K)
  (refine IV rfl rfl rfl (by simp only [go_sem] <;> rfl) ?_; intro K1 hK1; refine Au ?_; refine xv [] (L9 Z hz (by omega) hZr) ?_ ?_)
  ·rintro _ _ ⟨_, _, _, rfl, rfl⟩ i o hi hl; simp at hl
  rintro _ _ ⟨dx, hdx, hMx, rfl, rfl⟩
  obtain rfl := WkC.uniq hcx hdx
  have hlx := hNx.len
  (refine Wk ?_; clear hK1 K1)
  (refine Wc ?_; repeat clear hK K)
  (refine IV rfl rfl rfl (by simp only [go_sem] <;> rfl) ?_; intro K1 hK1; refine Au ?_; refine xv [] (DX cx cx (by omega) (by omega)) ?_ ?_)
  ·rintro _ _ ⟨rfl, rfl⟩ i o hi hl; simp at hl
  rintro _ _ ⟨rfl, rfl⟩
  clear hcx hdx hNx hMx
  (refine Wk ?_; clear hK1 K1)
  (try simp only [eq_self, decide_true])
  (refine Wd @Bool.not_true ?_; repeat clear hK K)
  (refine W1 rfl rfl rfl ?_; intro K1 hK1; refine B4 rfl ?_; simp only [go_sem, Bool.not_true]; (first | refine hK1 _ ?_ | refine AE (hK1 _ ?_)); clear hK1 K1)
  (refine Wc ?_; repeat clear hK K)
  (refine We ?_;(repeat clear hK K);repeat refine kq fun K hK=>?_)
  refine Wm ?_
  (refine We ?_;(repeat clear hK K);repeat refine kq fun K hK=>?_)
  refine Wn ?_
  refine hK _ (k + 1, a3) ⟨by simp only; omega, by simp only; omega⟩ (by simp only; omega) ?_
  refine Le.trans (A8 [0, 1] rfl rfl) ?_
  (try simp only [List.set_nil, List.take_nil, List.take_zero, List.map_append, go_sem])
  exact Wo
 | false =>
  (refine BJ [] [(0, 1, 1), (2, 1, 3), (1, 2, 0), (3, 2, 0), (4, 2, 0), (5, 0, 0), (6, 0, 0), (7, 1, 8), (9, 1, 10), (8, 2, 0), (10, 2, 0), (11, 2, 0), (12, 0, 0), (13, 2, 0)] (by kernel_rfl) (by kernel_rfl) (by intro c st h; simp [Ae, AJ, VD] at h) ?_)
  (refine Wc ?_; repeat clear hK K)
  (refine W0 rfl rfl ?_; intro K1 hK1; refine Au ?_; refine xv [] (Hb U hUv (by omega) hUr) ?_ ?_)
  ·rintro _ _ ⟨_, _, _, rfl, rfl⟩ i o hi hl; simp at hl
  rintro _ _ ⟨cx, hcx, hNx, rfl, rfl⟩
  (refine Wk ?_; clear hK1 K1)
  (refine Wc ?_; repeat clear hK K)
  (refine W0 rfl rfl ?_; intro K1 hK1; refine Au ?_; refine xv [] (L9 U hUv (by omega) hUr) ?_ ?_)
  ·rintro _ _ ⟨_, _, _, rfl, rfl⟩ i o hi hl; simp at hl
  rintro _ _ ⟨dx, hdx, hMx, rfl, rfl⟩
  obtain rfl := WkC.uniq hcx hdx
  have hlx := hNx.len
  (refine Wk ?_; clear hK1 K1)
  (refine Wc ?_; repeat clear hK K)
  (refine W0 rfl rfl ?_; intro K1 hK1; refine Au ?_; refine xv [] (DX cx cx (by omega) (by omega)) ?_ ?_)
  ·rintro _ _ ⟨rfl, rfl⟩ i o hi hl; simp at hl
  rintro _ _ ⟨rfl, rfl⟩
  clear hcx hdx hNx hMx
  (refine Wk ?_; clear hK1 K1)
  (try simp only [eq_self, decide_true])
  (refine Wd @Bool.not_true ?_; repeat clear hK K)
  (refine IV rfl rfl rfl (by simp only [go_sem] <;> rfl) ?_; intro K1 hK1; refine Au ?_; refine xv [] (QQ Z hz (by omega) hZr) ?_ ?_)
  ·rintro _ _ ⟨rfl, rfl⟩ i o hi hl; simp at hl
  rintro _ _ ⟨rfl, rfl⟩
  (refine Wk ?_; clear hK1 K1)
  (refine Wc ?_; repeat clear hK K)
  (refine IV rfl rfl rfl (by simp only [go_sem] <;> rfl) ?_; intro K1 hK1; refine Au ?_; refine xv [] (QP Z hz (by omega) (fun r h => Nat.le_trans (hZr r h) (by omega))) ?_ ?_)
  ·rintro _ _ ⟨rfl, rfl⟩ i o hi hl; simp at hl
  rintro _ _ ⟨rfl, rfl⟩
  (refine Wk ?_; clear hK1 K1)
  (refine Wc ?_; repeat clear hK K)
  (refine IV rfl rfl rfl (by simp only [go_sem] <;> rfl) ?_; intro K1 hK1; refine Au ?_; refine xv [] (IR) ?_ ?_)
  ·rintro _ _ ⟨rfl, rfl⟩ i o hi hl; simp at hl
  rintro _ _ ⟨rfl, rfl⟩
  (refine Wk ?_; clear hK1 K1)
  (refine Wd @Bool.not_true ?_; repeat clear hK K)
  (refine W1 rfl rfl rfl ?_; intro K1 hK1; refine B4 rfl ?_; simp only [go_sem, Bool.not_true]; (first | refine hK1 _ ?_ | refine AE (hK1 _ ?_)); clear hK1 K1)
  (refine Wc ?_; repeat clear hK K)
  (refine We ?_;(repeat clear hK K);repeat refine kq fun K hK=>?_)
  refine Wm ?_
  (refine We ?_;(repeat clear hK K);repeat refine kq fun K hK=>?_)
  refine Wn ?_
  refine hK _ (k + 1, a3) ⟨by simp only; omega, by simp only; omega⟩ (by simp only; omega) ?_
  refine Le.trans (A8 [0, 1] rfl rfl) ?_
  (try simp only [List.set_nil, List.take_nil, List.take_zero, List.map_append, go_sem])
  exact Wo
end Go.Proofs.YthnkailnoobdoaaGreatDoor
