/- Tape.Classes, the law WeakQuotient. -/
import Derived.Test.YtglchakimolfdaaGreatDoorZk
import Derived.Test.YtglchakimolfdaaGreatDoorG71
import Derived.Test.YtglchakimolfdaaGreatDoorG72
import Derived.Test.YtglchakimolfdaaGreatDoorG36
import Derived.Test.YtglchakimolfdaaGreatDoorSk0
namespace Go.Proofs.YtglchakimolfdaaGreatDoor
set_option linter.unusedVariables false
set_option linter.unusedSimpArgs false
open Go.RowKit
set_option maxRecDepth 100000
attribute [local go_sem] List.set_cons_zero List.set_cons_succ List.map_cons List.map_nil List.take_succ_cons List.take_zero List.drop_zero List.drop_succ_cons C.pl C.one List.all_cons List.all_nil Bool.and_true Nat.mul_one Int.toNat_natCast

set_option maxHeartbeats 2000000 in
theorem tcls_fc (T : List Int) (hT : TpOk T) (a0 n : Nat) (m : Int) (ha : a0 ≤ 1000000) (hn : n ≤ 100) (hm : m = (n : Int)) :
  FC Tryz.prog 19 [.a (.c (.p 0 0)), .i m] [tape T a0] (fun r o => ∃ L : List Int, (o = [tape T (a0 + n)] ∧ r = aInts L) ∧ L.length = n) := by
 subst hm
 refine fc_intro Tryz.func19 rfl (by rw [Tryz.ntmps19]; simp) ?_
 rw [Tryz.ntmps19]
 simp only [enum, tape]
 (refine wk0 ?_;(repeat clear hK K);repeat refine kq fun K hK=>?_)
 refine aw_le (le_nil 5 3 1 ?_) ?_
 ·simp only [go_sem]
 simp only [List.cons_append, List.nil_append, List.length_cons, List.length_nil]
 refine aw_loop (fun x : Nat × Nat × List Int => { tm := [(0, .a (.c (.p 0 0))), (1, .i n), (5, .a (.c (.s 1 x.1))), (6, .i x.2.1), (7, .i x.1)], hp := [.r ⟨48, 2, false, [.t 1 (tInts T), .v (.int .i64 ((a0 + x.1 : Nat) : Int))]⟩, .r ⟨3, 1, true, cInts x.2.2⟩], n := 28, pin := 1 }) (fun x => x.1 ≤ n ∧ x.2.1 ≤ x.1 ∧ x.2.2.length = x.1) (fun x => n - x.1) (0, 0, []) ?_ ?_ ?_
 ·exact ⟨by simp, by simp, rfl⟩
 ·simp only [cInts, List.map_nil, Nat.add_zero]
  exact lmz
 ·rintro ⟨s, nx, L⟩ ⟨hs, hnx, hL⟩ K hK
  simp only at hs hnx hL
  by_cases hlt : s < n
  ·have d1 : decide ((s : Int) < (n : Int)) = true := by simpa using hlt
   (refine wk1 @d1 ?_;(repeat clear hK K);repeat refine kq fun K hK=>?_)
   refine cxz ?_
   (refine wk0 ?_;(repeat clear hK K);repeat refine kq fun K hK=>?_)
   (refine lst_cons rfl ?_; intro K1 hK1; refine ct [0] (next_fc T (a0 + s) ((nx : Int) + 1) hT (by omega) (by omega)) ?_ ?_)
   ·rintro _ _ ⟨rfl, v, rfl, _⟩; rfl
   rintro _ _ ⟨rfl, v, rfl, hv⟩
   (simp only [aInts, aSets, tape, cInts_up, List.append_nil, List.nil_append, List.length_map, go_sem]; refine hK1 _ ?_; clear hK1 K1)
   (refine wk0 ?_;(repeat clear hK K);repeat refine kq fun K hK=>?_)
   have htk : L.take s = L := List.take_of_length_le (by omega)
   by_cases he : v = nx
   ·have d2 : ((v : Int) == (nx : Int)) = true := by simp [he]
    rw [d2]
    refine cxz ?_
    (refine wk1 (an @hL (an @List.set_cons_zero.{0} (an @List.set_cons_succ.{0} (an @List.take_succ_cons.{0} (an @List.take_zero.{0} (an @List.drop_zero.{0} (an @List.length_take.{0} (an @List.length_drop.{0} (an @List.length_append.{0} (an @tInts_len (an @tInts_take (an @tInts_drop (an @tInts_c (an @cInts_len (an @cInts_one (an @cInts_snoc (an @cInts_app (an @cInts_take (an @cInts_drop @htk))))))))))))))))))) ?_;(repeat clear hK K);repeat refine kq fun K hK=>?_)
    refine rnz ?_
    refine hK _ (s + 1, nx + 1, L ++ [(v : Int)]) ⟨by simp only; omega, by simp only; omega, by simp [hL]⟩ (by simp only; omega) ?_
    refine Le.trans (le_pick [0, 3] rfl rfl) ?_
    (try simp only [List.set_nil, List.take_nil, List.take_zero, List.map_append, go_sem])
    (try simp only [cInts_ren, hL])
    exact lmz
   ·have d2 : ((v : Int) == (nx : Int)) = false := by simp; omega
    rw [d2]
    refine cyz ?_
    (refine wk1 (an @hL (an @List.set_cons_zero.{0} (an @List.set_cons_succ.{0} (an @List.take_succ_cons.{0} (an @List.take_zero.{0} (an @List.drop_zero.{0} (an @List.length_take.{0} (an @List.length_drop.{0} (an @List.length_append.{0} (an @tInts_len (an @tInts_take (an @tInts_drop (an @tInts_c (an @cInts_len (an @cInts_one (an @cInts_snoc (an @cInts_app (an @cInts_take (an @cInts_drop @htk))))))))))))))))))) ?_;(repeat clear hK K);repeat refine kq fun K hK=>?_)
    refine rnz ?_
    refine hK _ (s + 1, nx, L ++ [(v : Int)]) ⟨by simp only; omega, by simp only; omega, by simp [hL]⟩ (by simp only; omega) ?_
    refine Le.trans (le_pick [0, 3] rfl rfl) ?_
    (try simp only [List.set_nil, List.take_nil, List.take_zero, List.map_append, go_sem])
    (try simp only [cInts_ren, hL])
    exact lmz
  ·have d1 : decide ((s : Int) < (n : Int)) = false := by simpa using hlt
   have hse : s = n := by omega
   have htk : (tInts L).take s = tInts L := List.take_of_length_le (by rw [tInts_len]; omega)
   have hif : (if s ≤ (tInts L).length then C.t 1 (tInts L) else C.u) = C.t 1 (tInts L) := if_pos (by rw [tInts_len]; omega)
   (refine wk1 @d1 ?_;(repeat clear hK K);repeat refine kq fun K hK=>?_)
   refine cyz ?_
   (refine ekz ?_;repeat clear hK K)
   (refine aw_le (le_frz (r := ⟨3, 1, true, cInts L⟩) 1 (tInts L) rfl (fz_c _) (show 0 < (1 : Nat) by omega)) ?_; simp only [ST.frz, A0.frz, AV.frz, C.frz, Nat.le_refl, List.set_cons_zero, List.set_cons_succ, go_sem, htk, hif])
   (refine wk0 ?_;(repeat clear hK K);repeat refine kq fun K hK=>?_)
   refine rp0 [0] Tryz.results19 ?_
   exact ⟨L, ⟨by rw [hse], rfl⟩, by omega⟩
set_option maxHeartbeats 2000000 in
theorem quotW_fc (R : List (List Ar)) (cl : List Int) (hn : R.length ≤ 1000000) (hr : ∀ r ∈ R, r.length ≤ 1000000) (hC : cl.length ≤ 9223372036854775807) : FC Tryz.prog 18 [aLts R, aInts cl] [] (fun r o => o = [] ∧ r = .b true) := by
 refine fc_intro Tryz.func18 rfl (by rw [Tryz.ntmps18]; simp) ?_
 rw [Tryz.ntmps18]
 simp only [enum, aLts, aInts]
 by_cases hq : valB R = true ∧ numB cl R.length = true
 ·obtain ⟨hv, hN⟩ := hq
  (refine wk0 ?_;(repeat clear hK K);repeat refine kq fun K hK=>?_)
  (refine ckz (quo_fc R cl hv hN hn hr) ?_; intro K1 hK1)
  intro r1 o1 ⟨B, hB, h1⟩
  have hlo : looB R = true := decide_eq_true (of_decide_eq_true hv).1
  obtain ⟨hql, hqb, hqt⟩ := qR_bd (B := B) hlo hN
  have hR16 : R.length ≤ 16384 := (of_decide_eq_true hlo).2.1
  have htA : totA R ≤ 262144 := (of_decide_eq_true hlo).2.2.1
  have hm := (num_ok hN).2.1
  have hm1 : 1 ≤ mxN cl := by have := ((num_ok hN).2.2.1 0 (of_decide_eq_true hlo).1).1; omega
  have hqr : ∀ r ∈ qR R cl B, r.length ≤ 1000000 := fun r hr0 => by
   obtain ⟨j, hj, rfl⟩ := List.getElem_of_mem hr0
   have h := totA_row (qR R cl B) j
   rw [List.getD_eq_getElem?_getD, List.getElem?_eq_getElem hj, Option.getD_some] at h
   omega
  have hb := canonR_bd (R := qR R cl B) (B := 1000000) (by omega) (fun r hr0 a ha => by have := hqb r hr0 a ha; exact ⟨this.2.2.1, this.2.2.2⟩) hqr
  have hsec : ∀ r o, (∃ B, DvL R B ∧ quO (canonR (qR R cl B)).1 r o) → quO (canonR (qR R cl B)).1 r o := fun r o ⟨B2, hB2, h⟩ => by
   rw [hB2.uniq hB] at h; exact h
  generalize (canonR (qR R cl B)).1 = x at *
  have hxl : x.length ≤ 1000000 := by omega
  by_cases ht : totA x ≤ 262144
  ·rw [quO, if_pos ht] at h1
   obtain ⟨rfl, rfl⟩ := h1
   (refine bkz ?_; clear hK1 K1)
   (refine wks0 ?_;(repeat clear hK K);repeat refine kq fun K hK=>?_)
   (refine ckz (rquo_fc R cl hv hN hn hr) ?_; intro K1 hK1)
   intro r2 o2 h2
   have h2 := hsec r2 o2 h2
   rw [quO, if_pos ht] at h2
   obtain ⟨rfl, rfl⟩ := h2
   (refine bkz ?_; clear hK1 K1)
   (refine wks0 ?_;(repeat clear hK K);repeat refine kq fun K hK=>?_)
   (refine lst_goU rfl rfl (by simp only [go_sem] <;> rfl) ?_; intro K1 hK1; refine (stp_call0 (ids := []) (same_fc x hxl hb.2) rfl rfl (by simp only [go_sem]) (by kernel_rfl) (by (simp only [List.append_nil, go_sem]) <;> rfl) ?_).stp)
   rintro _ _ ⟨rfl, rfl⟩
   (refine bkz ?_; clear hK1 K1)
   (refine wk0 ?_;(repeat clear hK K);repeat refine kq fun K hK=>?_)
   exact rpc0 [] Tryz.results18
  ·rw [quO, if_neg ht] at h1
   obtain ⟨rfl, rfl⟩ := h1
   (refine bkz ?_; clear hK1 K1)
   (refine wks0 ?_;(repeat clear hK K);repeat refine kq fun K hK=>?_)
   (refine ckz (rquo_fc R cl hv hN hn hr) ?_; intro K1 hK1)
   intro r2 o2 h2
   have h2 := hsec r2 o2 h2
   rw [quO, if_neg ht] at h2
   obtain ⟨rfl, rfl⟩ := h2
   (refine bkz ?_; clear hK1 K1)
   (refine wks0 ?_;(repeat clear hK K);repeat refine kq fun K hK=>?_)
   (refine lst_goU rfl rfl (by simp only [go_sem] <;> rfl) ?_; intro K1 hK1; refine (stp_call0 (ids := []) (sameN_fc) rfl rfl (by simp only [go_sem]) (by kernel_rfl) (by (simp only [List.append_nil, go_sem]) <;> rfl) ?_).stp)
   rintro _ _ ⟨rfl, rfl⟩
   (refine bkz ?_; clear hK1 K1)
   (refine wk0 ?_;(repeat clear hK K);repeat refine kq fun K hK=>?_)
   exact rpc0 [] Tryz.results18
 ·have hno : valB R = false ∨ numB cl R.length = false := by
   cases hv : valB R with
   | false => exact .inl rfl
   | true => exact .inr (by cases hN : numB cl R.length with
     | false => rfl
     | true => exact absurd ⟨hv, hN⟩ hq)
  (refine wk0 ?_;(repeat clear hK K);repeat refine kq fun K hK=>?_)
  (refine ckz (quo_no R cl hno (by omega) (fun r h => by have := hr r h; omega) hC) ?_; intro K1 hK1)
  rintro _ _ ⟨rfl, rfl⟩
  (refine bkz ?_; clear hK1 K1)
  (refine wks0 ?_;(repeat clear hK K);repeat refine kq fun K hK=>?_)
  (refine ckz (rquo_no R cl hno (by omega) (fun r h => by have := hr r h; omega) hC) ?_; intro K1 hK1)
  rintro _ _ ⟨rfl, rfl⟩
  (refine bkz ?_; clear hK1 K1)
  (refine wks0 ?_;(repeat clear hK K);repeat refine kq fun K hK=>?_)
  (refine lst_goU rfl rfl (by simp only [go_sem] <;> rfl) ?_; intro K1 hK1; refine (stp_call0 (ids := []) (sameN_fc) rfl rfl (by simp only [go_sem]) (by kernel_rfl) (by (simp only [List.append_nil, go_sem]) <;> rfl) ?_).stp)
  rintro _ _ ⟨rfl, rfl⟩
  (refine bkz ?_; clear hK1 K1)
  (refine wk0 ?_;(repeat clear hK K);repeat refine kq fun K hK=>?_)
  exact rpc0 [] Tryz.results18
theorem row_tot2 {X : List (List Ar)} : ∀ r ∈ X, r.length ≤ totA X := fun r hr => by
 obtain ⟨j, hj, rfl⟩ := List.getElem_of_mem hr
 have h := totA_row X j
 rw [List.getD_eq_getElem?_getD, List.getElem?_eq_getElem hj, Option.getD_some] at h
 exact h
theorem totA_mul2 {B : Nat} : ∀ {X : List (List Ar)}, (∀ r ∈ X, r.length ≤ B) → totA X ≤ X.length * B
 | [], _ => by simp [totA]
 | x :: r, h => by
  have h1 := h x (by simp)
  have h2 := totA_mul2 (X := r) fun q hq => h q (List.mem_cons_of_mem _ hq)
  simp only [totA, List.map_cons, List.sum_cons, List.length_cons, Nat.succ_mul] at h2 ⊢
  omega
theorem chV_fc (T : List Int) (hT : TpOk T) (a0 n : Nat) (m : Int) (ha : a0 ≤ 500000) (hn : n ≤ 10) (h1 : 1 ≤ n) (hm : m = (n : Int)) :
  FC Tryz.prog 17 [.a (.c (.p 0 0)), .i m] [tape T a0] (fun r o => ∃ (a' : Nat) (R : List (List Ar)), (o = [tape T a', oLts R] ∧ r = aLts R) ∧ a' ≤ a0 + 81 ∧ valB R = true ∧ 1 ≤ R.length ∧ R.length ≤ 10 ∧ ∀ r ∈ R, r.length ≤ 4) := by
 subst hm
 exact (chain_fc T hT a0 n ha (by omega) (by omega)).mono fun r o ⟨a', R, h0, h1, h2, h3, h4, h5⟩ => ⟨a', R, ⟨h0, h1⟩, by omega, decide_eq_true ⟨⟨h3, by show R.length ≤ 16384; omega, by
  have := totA_mul2 fun r hr => (h5.2 r hr).2.1
  show totA R ≤ 262144; omega, fun r hr => (h5.2 r hr).2.2⟩, fun r hr => (h5.2 r hr).1⟩, h3, by omega, fun r hr => (h5.2 r hr).2.1⟩
set_option maxHeartbeats 8000000 in
theorem lawWq_fc (T : List Int) (hT : TpOk T) (R0 : List (List Ar)) (c0 : List Int) (hn0 : R0.length ≤ 140737488355328) (hr0 : ∀ r ∈ R0, r.length ≤ 140737488355328) (hc0 : c0.length ≤ 9223372036854775807) : FC Tryz.prog 4 [aInts T, aLts R0, aInts c0] [] (fun r _ => r = .b true) := by
 refine fc_intro Tryz.func4 rfl (by rw [Tryz.ntmps4]; simp) ?_
 rw [Tryz.ntmps4]
 simp only [enum, aInts, aLts]
 (refine wk0 ?_;(repeat clear hK K);repeat refine kq fun K hK=>?_)
 (refine ckz (new_fc T) ?_; intro K1 hK1)
 rintro _ _ ⟨rfl, rfl⟩
 (simp only [aInts, aSets, tape, List.append_nil, List.nil_append, List.length_map, go_sem]; refine hK1 _ ?_; clear hK1 K1)
 (refine wk0 ?_;(repeat clear hK K);repeat refine kq fun K hK=>?_)
 refine aw_loop (fun p : Nat × Nat => { tm := [(2, .a (.c (.t 1 (tInts c0)))), (4, .a (.c (.p 0 0))), (7, .a (.c (.p 1 0))), (8, .i p.1)], hp := [.r ⟨25, 1, false, [.t 1 (tRows R0)]⟩, .r ⟨48, 2, false, [.t 1 (tInts T), .v (.int .i64 p.2)]⟩], n := 72, pin := 0 }) (fun p => p.1 ≤ 3 ∧ p.2 ≤ 200 * p.1) (fun p => 3 - p.1) (0, 0) ?_ ?_ ?_
 ·exact ⟨by simp, by simp⟩
 ·exact lmz
 ·rintro ⟨k, a⟩ ⟨hk, ha⟩ K hK
  simp only at hk ha ⊢
  (refine wk0 ?_;(repeat clear hK K);repeat refine kq fun K hK=>?_)
  (refine aw_cnd ?_; intro X Y hX hY; simp only [go_sem])
  refine ⟨fun h => hX ?_, fun h => hY ?_⟩
  ·have hlt : k < 3 := by simp at h; omega
   clear hX hY X Y h
   (refine wk0 ?_;(repeat clear hK K);repeat refine kq fun K hK=>?_)
   (refine lst_cons rfl ?_; intro K1 hK1; refine ct [1] (chV_fc T hT a 6 6 (by omega) (by omega) (by omega) rfl) ?_ ?_)
   ·rintro _ _ ⟨_, _, ⟨rfl, rfl⟩, _⟩; rfl
   rintro _ _ ⟨a1, Z, ⟨rfl, rfl⟩, ha1, hv, hZ1, hZn, hZr⟩
   (simp only [aInts, aSets, tape, oLts, aLts, List.append_nil, List.nil_append, List.length_map, go_sem]; refine hK1 _ ?_; clear hK1 K1)
   (refine wks0 ?_;(repeat clear hK K);repeat refine kq fun K hK=>?_)
   have hZn2 : Z.length ≤ 1000000 := by omega
   have hZr2 : ∀ r ∈ Z, r.length ≤ 1000000 := fun r h => by have := hZr r h; omega
   (refine aw_regionV [1] [(0, 1, 6), (1, 0, 0), (2, 0, 0), (3, 1, 5), (4, 0, 0), (5, 2, 0), (6, 2, 0), (7, 0, 0), (8, 0, 0), (9, 1, 12), (10, 1, 11), (11, 2, 0), (12, 2, 0), (13, 0, 0), (14, 0, 0), (15, 0, 0), (16, 1, 18), (17, 0, 0), (18, 2, 0), (19, 0, 0), (20, 0, 0), (21, 0, 0), (22, 1, 29), (23, 0, 0), (24, 0, 0), (25, 1, 28), (26, 0, 0), (27, 0, 0), (28, 2, 0), (29, 2, 0), (30, 0, 0), (31, 0, 0), (32, 0, 0), (33, 0, 0), (34, 1, 35), (36, 0, 0), (37, 0, 0), (38, 1, 40), (39, 0, 0), (35, 2, 0), (40, 2, 0), (41, 2, 0), (42, 0, 0), (43, 2, 0)] (by kernel_rfl) (by kernel_rfl) (by intro c st h; simp [ThenA, InBl, Ret] at h) ?_)
   (refine vk1 @tRows_len ?_; repeat clear hK K)
   (refine v_2 rfl rfl ?_; intro K1 hK1; refine xw [1] (tcls_fc T hT a1 Z.length Z.length (by omega) (by omega) rfl) ?_ ?_)
   ·rintro _ _ ⟨_, ⟨rfl, rfl⟩, _⟩; exact born_one rfl
   rintro _ _ ⟨c1, ⟨rfl, rfl⟩, hc1⟩
   (simp only [aInts, aSets, tape, List.append_nil, List.nil_append, List.length_map, go_sem]; refine hK1 _ ?_; clear hK1 K1)
   (refine vk0 ?_; repeat clear hK K)
   (refine v_2 rfl rfl ?_; intro K1 hK1; refine stpX_mono ?_; refine xv [] (quotW_fc Z c1 hZn2 hZr2 (by omega)) ?_ ?_)
   ·rintro _ _ ⟨rfl, rfl⟩ i o hi hl; simp at hl
   rintro _ _ ⟨rfl, rfl⟩
   (refine bkz ?_; clear hK1 K1)
   (refine vk1 @Bool.not_true ?_; repeat clear hK K)
   (refine v_2g rfl rfl rfl (by simp only [go_sem] <;> rfl) ?_; intro K1 hK1; refine stpX_mono ?_; refine xv [] (rwk_fc Z hv (by omega) hZr2) ?_ ?_)
   ·rintro _ _ ⟨_, _, _, rfl, rfl⟩ i o hi hl; simp at hl
   rintro _ _ ⟨c2, hc2, hN2, rfl, rfl⟩
   have hl2 := hN2.len
   (refine bkz ?_; clear hK1 K1)
   (refine vk0 ?_; repeat clear hK K)
   (refine v_2g rfl rfl rfl (by simp only [go_sem] <;> rfl) ?_; intro K1 hK1; refine stpX_mono ?_; refine xv [] (quotW_fc Z c2 hZn2 hZr2 (by omega)) ?_ ?_)
   ·rintro _ _ ⟨rfl, rfl⟩ i o hi hl; simp at hl
   rintro _ _ ⟨rfl, rfl⟩
   (refine bkz ?_; clear hK1 K1)
   (refine vk1 @Bool.not_true ?_; repeat clear hK K)
   (refine v_2g rfl rfl rfl (by simp only [go_sem] <;> rfl) ?_; intro K1 hK1; refine stpX_mono ?_; refine xv [] (quotW_fc Z c0 hZn2 hZr2 hc0) ?_ ?_)
   ·rintro _ _ ⟨rfl, rfl⟩ i o hi hl; simp at hl
   rintro _ _ ⟨rfl, rfl⟩
   (refine bkz ?_; clear hK1 K1)
   (refine vk1 (an @Bool.not_true @tRows_len) ?_; repeat clear hK K)
   (refine v_2g rfl rfl rfl (by simp only [go_sem] <;> rfl) ?_; intro K1 hK1; refine xw [1] (tcls_fc T hT (a1 + Z.length) (1 + Z.length) (1 + (Z.length : Int)) (by omega) (by omega) (by omega)) ?_ ?_)
   ·rintro _ _ ⟨_, ⟨rfl, rfl⟩, _⟩; exact born_one rfl
   rintro _ _ ⟨c3, ⟨rfl, rfl⟩, hc3⟩
   (simp only [aInts, aSets, tape, List.append_nil, List.nil_append, List.length_map, go_sem]; refine hK1 _ ?_; clear hK1 K1)
   (refine vk0 ?_; repeat clear hK K)
   (refine v_2g rfl rfl rfl (by simp only [go_sem] <;> rfl) ?_; intro K1 hK1; refine stpX_mono ?_; refine xv [] (quotW_fc Z c3 hZn2 hZr2 (by omega)) ?_ ?_)
   ·rintro _ _ ⟨rfl, rfl⟩ i o hi hl; simp at hl
   rintro _ _ ⟨rfl, rfl⟩
   (refine bkz ?_; clear hK1 K1)
   (refine vk1 (an @Bool.not_true @tRows_len) ?_; repeat clear hK K)
   (refine v_2g rfl rfl rfl (by simp only [go_sem] <;> rfl) ?_; intro K1 hK1; refine xw [1] (spoil_fc T hT (a1 + Z.length + (1 + Z.length)) Z (by omega) hZ1 (by omega) (fun r h => by have := hZr r h; omega)) ?_ ?_)
   ·rintro _ _ ⟨_, _, rfl, rfl, _⟩ i o hi hl
    have h0 : i = 0 := by simp at hl; exact hl
    subst h0
    simp at hi
    subst hi
    rfl
   rintro _ _ ⟨a3, W, rfl, rfl, ha3, hWn, hWr⟩
   (simp only [aInts, aSets, tape, oLts, aLts, List.append_nil, List.nil_append, List.length_map, go_sem]; refine hK1 _ ?_; clear hK1 K1)
   (refine vk1 @tRows_len ?_; repeat clear hK K)
   (refine v_2g rfl rfl rfl (by simp only [go_sem] <;> rfl) ?_; intro K1 hK1; refine xw [1] (tcls_fc T hT a3 Z.length Z.length (by omega) (by omega) rfl) ?_ ?_)
   ·rintro _ _ ⟨_, ⟨rfl, rfl⟩, _⟩; exact born_one rfl
   rintro _ _ ⟨c4, ⟨rfl, rfl⟩, hc4⟩
   (simp only [aInts, aSets, tape, List.append_nil, List.nil_append, List.length_map, go_sem]; refine hK1 _ ?_; clear hK1 K1)
   (refine vk0 ?_; repeat clear hK K)
   (refine v_2g rfl rfl rfl (by simp only [go_sem] <;> rfl) ?_; intro K1 hK1; refine stpX_mono ?_; refine xv [] (quotW_fc W c4 (by omega) (fun r h => by have := hWr r h; omega) (by omega)) ?_ ?_)
   ·rintro _ _ ⟨rfl, rfl⟩ i o hi hl; simp at hl
   rintro _ _ ⟨rfl, rfl⟩
   (refine bkz ?_; clear hK1 K1)
   (refine vk1 @Bool.not_true ?_; repeat clear hK K)
   (refine v_3 rfl rfl rfl ?_; intro K1 hK1; refine stp_ev rfl ?_; simp only [go_sem, Bool.not_true]; (first | refine hK1 _ ?_ | refine andk (hK1 _ ?_)); clear hK1 K1)
   (refine vk0 ?_; repeat clear hK K)
   (refine wk0 ?_;(repeat clear hK K);repeat refine kq fun K hK=>?_)
   refine cyz ?_
   (refine wk0 ?_;(repeat clear hK K);repeat refine kq fun K hK=>?_)
   refine rnz ?_
   refine hK _ (k + 1, a3 + Z.length) ⟨by simp only; omega, by simp only; omega⟩ (by simp only; omega) ?_
   refine Le.trans (le_pick [0, 1] rfl rfl) ?_
   (try simp only [List.set_nil, List.take_nil, List.take_zero, List.map_append, go_sem])
   exact lmz
  ·clear hX hY X Y
   (refine ekz ?_;repeat clear hK K)
   (refine wk0 ?_;(repeat clear hK K);repeat refine kq fun K hK=>?_)
   (refine ckz (huge_fc R0 hn0 hr0) ?_; intro K1 hK1)
   rintro _ _ ⟨rfl, rfl⟩
   (refine bkz ?_; clear hK1 K1)
   cases hb : hugeB R0 with
   | true =>
    (refine wk0 ?_;(repeat clear hK K);repeat refine kq fun K hK=>?_)
    exact rqc0 Tryz.results4
   | false =>
    have hb2 : R0.length ≤ 12 ∧ totA R0 ≤ 60 := by
     unfold hugeB at hb
     simp only [Bool.or_eq_false_iff, decide_eq_false_iff_not] at hb
     omega
    have hb3 : ∀ r ∈ R0, r.length ≤ 1000000 := fun r h => by have := row_tot2 r h; omega
    (refine wk0 ?_;(repeat clear hK K);repeat refine kq fun K hK=>?_)
    (refine lst_goU rfl rfl (by simp only [go_sem] <;> rfl) ?_; intro K1 hK1; refine (stp_call0 (ids := []) (quotW_fc R0 c0 (by omega) hb3 hc0) rfl rfl (by simp only [go_sem]) (by kernel_rfl) (by (simp only [List.append_nil, go_sem]) <;> rfl) ?_).stp)
    rintro _ _ ⟨rfl, rfl⟩
    (refine bkz ?_; clear hK1 K1)
    (refine wk0 ?_;(repeat clear hK K);repeat refine kq fun K hK=>?_)
    (refine lst_goU rfl rfl (by simp only [go_sem] <;> rfl) ?_; intro K1 hK1; refine (stp_call0 (ids := []) (sane26_fc) rfl rfl (by simp only [go_sem]) (by kernel_rfl) (by (simp only [List.append_nil, go_sem]) <;> rfl) ?_).stp)
    rintro _ _ rfl
    (refine bkz ?_; clear hK1 K1)
    (refine wk0 ?_;(repeat clear hK K);repeat refine kq fun K hK=>?_)
    exact rqc0 Tryz.results4
end Go.Proofs.YtglchakimolfdaaGreatDoor
