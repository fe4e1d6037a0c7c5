/- ref25.hasArc, covers, split, rounds. The reference's small functions of lists of numbers. The reference's Ints, Sets, LessInts. The reference's LessInts. ref25.Events, saturated, rounds, silent, Delay. ref25.saturated(weak). Truth values compared. ref25.rounds, silent, Delay. ref25.silent(weak), ref25.Weak. -/
import Derived.Test.YtglchakimolfdaaGreatDoorZk
import Derived.Test.YtglchakimolfdaaGreatDoorG71
import Derived.Test.YtglchakimolfdaaGreatDoorG45
import Derived.Test.YtglchakimolfdaaGreatDoorMG
import Derived.Test.YtglchakimolfdaaGreatDoorMK
import Derived.Test.YtglchakimolfdaaGreatDoorG67
namespace Go.Proofs.YtglchakimolfdaaGreatDoor
set_option linter.unusedVariables false
set_option linter.unusedSimpArgs false
open Go.RowKit
set_option maxRecDepth 100000
attribute [local go_sem] List.set_cons_zero List.set_cons_succ List.map_cons List.map_nil List.take_succ_cons List.take_zero List.drop_zero List.drop_succ_cons C.pl C.one List.all_cons List.all_nil Bool.and_true Nat.mul_one Int.toNat_natCast

theorem hasB_succ {c : List Int} {row : List Ar} {e x : Int} {k : Nat} (h : k < row.length) : hasB c (row.take (k + 1)) e x = (hasB c (row.take k) e x || (row[k].1 == e && c.getD row[k].2.toNat 0 == x)) := by
 unfold hasB
 rw [List.take_succ_eq_append_getElem h, List.any_append]
 simp
theorem hasA_fc (row : List Ar) (c : List Int) (e x : Int) (hn : row.length ≤ 140737488355328) (hc : c.length ≤ 140737488355328) (hb : ∀ a ∈ row, 0 ≤ a.2 ∧ a.2 < (c.length : Int)) : FC Tryz.prog 129 [aArcs row, aInts c, .i e, .i x] [] (fun r o => o = [] ∧ r = .b (hasB c row e x)) := by
 refine fc_intro Tryz.func129 rfl (by rw [Tryz.ntmps129]; simp) ?_
 rw [Tryz.ntmps129]
 simp only [enum, aArcs, aInts]
 (refine wk0 ?_;(repeat clear hK K);repeat refine kq fun K hK=>?_)
 refine aw_loop (fun k : Nat => { tm := [(0, .a (.c (.t 2 (tArcs row)))), (1, .a (.c (.t 1 (tInts c)))), (2, .i e), (3, .i x), (9, .i k)], hp := [], n := 35, pin := 0 }) (fun k => k ≤ row.length ∧ hasB c (row.take k) e x = false) (fun k => row.length - k) 0 ?_ ?_ ?_
 ·exact ⟨by omega, by simp [hasB]⟩
 ·exact lmz
 ·rintro k ⟨hk, hno⟩ K hK
  by_cases hlt : k < row.length
  ·have d1 : decide ((k : Int) < (row.length : Int)) = true := by simpa using hlt
   have hmem := List.getElem_mem hlt
   have hba := hb _ hmem
   have g0 := tArcs_c0 hlt
   have g1 := tArcs_c1 hlt
   have hst := hasB_succ (c := c) (e := e) (x := x) hlt
   have hall : hasB c (row.take (k + 1)) e x = true → hasB c row e x = true := fun h => by
    unfold hasB at h ⊢
    rw [List.any_eq_true] at h ⊢
    obtain ⟨y, h1, h2⟩ := h
    exact ⟨y, List.mem_of_mem_take h1, h2⟩
   generalize row[k] = a at *
   obtain ⟨e0, t⟩ := a
   simp only at g0 g1 hba hst
   obtain ⟨tn, rfl⟩ : ∃ tn : Nat, t = (tn : Int) := ⟨t.toNat, by omega⟩
   have htn : tn < c.length := by omega
   have gc := tInts_get (List.getElem?_eq_getElem htn)
   rw [hno, Bool.false_or, Int.toNat_natCast, List.getD_eq_getElem?_getD, List.getElem?_eq_getElem htn, Option.getD_some] at hst
   (refine wk1 (an @tArcs_len (an @half2 @d1)) ?_;(repeat clear hK K);repeat refine kq fun K hK=>?_)
   refine cxz ?_
   by_cases he : e0 = e
   ·have d2 : (e0 == e) = true := by simpa using he
    by_cases hx : c[tn] = x
    ·have d3 : (c[tn] == x) = true := by simpa using hx
     (refine wk1 (an @tArcs_len (an @half2 (an @g0 (an @g1 (an @d2 (an @tInts_len (an @gc @d3))))))) ?_;(repeat clear hK K);repeat refine kq fun K hK=>?_)
     refine cxz ?_
     (refine wk0 ?_;(repeat clear hK K);repeat refine kq fun K hK=>?_)
     refine rq0 Tryz.results129 ?_
     rw [hall (by rw [hst, d2, d3]; rfl)]
    ·have d3 : (c[tn] == x) = false := by simpa using hx
     (refine wk1 (an @tArcs_len (an @half2 (an @g0 (an @g1 (an @d2 (an @tInts_len (an @gc @d3))))))) ?_;(repeat clear hK K);repeat refine kq fun K hK=>?_)
     refine cyz ?_
     (refine wk0 ?_;(repeat clear hK K);repeat refine kq fun K hK=>?_)
     refine rnz ?_
     refine hK _ (k + 1) ⟨by omega, by rw [hst, d2, d3]; rfl⟩ (by omega) ?_
     exact lmz
   ·have d2 : (e0 == e) = false := by simpa using he
    (refine wk1 (an @tArcs_len (an @half2 (an @g0 (an @g1 @d2)))) ?_;(repeat clear hK K);repeat refine kq fun K hK=>?_)
    refine cyz ?_
    (refine wk0 ?_;(repeat clear hK K);repeat refine kq fun K hK=>?_)
    refine rnz ?_
    refine hK _ (k + 1) ⟨by omega, by rw [hst, d2]; rfl⟩ (by omega) ?_
    exact lmz
  ·have d1 : decide ((k : Int) < (row.length : Int)) = false := by simpa using hlt
   rw [List.take_of_length_le (by omega)] at hno
   (refine wk1 (an @tArcs_len (an @half2 @d1)) ?_;(repeat clear hK K);repeat refine kq fun K hK=>?_)
   refine cyz ?_
   (refine ekz ?_;repeat clear hK K)
   (refine wk0 ?_;(repeat clear hK K);repeat refine kq fun K hK=>?_)
   refine rq0 Tryz.results129 ?_
   rw [hno]
theorem covB_succ {c : List Int} {row b : List Ar} {k : Nat} (h : k < row.length) : covB c (row.take (k + 1)) b = (covB c (row.take k) b && hasB c b row[k].1 (c.getD row[k].2.toNat 0)) := by
 unfold covB
 rw [List.take_succ_eq_append_getElem h, List.all_append]
 simp
theorem cov_fc (row b : List Ar) (c : List Int) (hn : row.length ≤ 140737488355328) (hbn : b.length ≤ 140737488355328) (hc : c.length ≤ 140737488355328) (hb : ∀ a ∈ row, 0 ≤ a.2 ∧ a.2 < (c.length : Int)) (hb2 : ∀ a ∈ b, 0 ≤ a.2 ∧ a.2 < (c.length : Int)) : FC Tryz.prog 109 [aArcs row, aArcs b, aInts c] [] (fun r o => o = [] ∧ r = .b (covB c row b)) := by
 refine fc_intro Tryz.func109 rfl (by rw [Tryz.ntmps109]; simp) ?_
 rw [Tryz.ntmps109]
 simp only [enum, aArcs, aInts]
 (refine wk0 ?_;(repeat clear hK K);repeat refine kq fun K hK=>?_)
 refine aw_loop (fun k : Nat => { tm := [(0, .a (.c (.t 2 (tArcs row)))), (1, .a (.c (.t 2 (tArcs b)))), (2, .a (.c (.t 1 (tInts c)))), (7, .i k)], hp := [], n := 31, pin := 0 }) (fun k => k ≤ row.length ∧ covB c (row.take k) b = true) (fun k => row.length - k) 0 ?_ ?_ ?_
 ·exact ⟨by omega, by simp [covB]⟩
 ·exact lmz
 ·rintro k ⟨hk, hno⟩ K hK
  by_cases hlt : k < row.length
  ·have d1 : decide ((k : Int) < (row.length : Int)) = true := by simpa using hlt
   have hmem := List.getElem_mem hlt
   have hba := hb _ hmem
   have g0 := tArcs_c0 hlt
   have g1 := tArcs_c1 hlt
   have hst := covB_succ (c := c) (b := b) hlt
   have hall : covB c (row.take (k + 1)) b = false → covB c row b = false := fun h => by
    unfold covB at h ⊢
    rw [List.all_eq_false] at h ⊢
    obtain ⟨y, h1, h2⟩ := h
    exact ⟨y, List.mem_of_mem_take h1, h2⟩
   generalize row[k] = a at *
   obtain ⟨e0, t⟩ := a
   simp only at g0 g1 hba hst
   obtain ⟨tn, rfl⟩ : ∃ tn : Nat, t = (tn : Int) := ⟨t.toNat, by omega⟩
   have htn : tn < c.length := by omega
   have gc := tInts_get (List.getElem?_eq_getElem htn)
   rw [hno, Bool.true_and, Int.toNat_natCast, List.getD_eq_getElem?_getD, List.getElem?_eq_getElem htn, Option.getD_some] at hst
   (refine wk1 (an @tArcs_len (an @half2 @d1)) ?_;(repeat clear hK K);repeat refine kq fun K hK=>?_)
   refine cxz ?_
   (refine wk0 ?_;(repeat clear hK K);repeat refine kq fun K hK=>?_)
   (refine aw_regionU 15 [(0, 0), (1, 0), (2, 0), (3, 0), (4, 0), (5, 0), (6, 1), (7, 0), (8, 0), (9, 0), (10, 0), (11, 0), (12, 1), (13, 0), (14, 1), (15, 2), (16, 0)] (by kernel_rfl) (by kernel_rfl) (by intro c st h; simp [ThenA, InBl, Ret] at h) ?_)
   (refine uk1 (an @tArcs_len (an @half2 (an @g0 (an @g1 (an @tInts_len @gc))))) ?_; repeat clear hK K)
   (refine uckz (hasA_fc b c e0 c[tn] hbn hc hb2) ?_; intro K1 hK1)
   rintro _ _ ⟨rfl, rfl⟩
   (refine bkz ?_; clear hK1 K1)
   cases hh : hasB c b e0 c[tn] with
   | true =>
    rw [hh] at hst
    (refine uk1 @Bool.not_true ?_; repeat clear hK K)
    refine cyz ?_
    (refine wk0 ?_;(repeat clear hK K);repeat refine kq fun K hK=>?_)
    refine rnz ?_
    refine hK _ (k + 1) ⟨by omega, hst⟩ (by omega) ?_
    exact lmz
   | false =>
    rw [hh] at hst
    (refine uk1 @Bool.not_false ?_; repeat clear hK K)
    refine cxz ?_
    (refine wk0 ?_;(repeat clear hK K);repeat refine kq fun K hK=>?_)
    refine rq0 Tryz.results109 ?_
    rw [hall hst]
  ·have d1 : decide ((k : Int) < (row.length : Int)) = false := by simpa using hlt
   rw [List.take_of_length_le (by omega)] at hno
   (refine wk1 (an @tArcs_len (an @half2 @d1)) ?_;(repeat clear hK K);repeat refine kq fun K hK=>?_)
   refine cyz ?_
   (refine ekz ?_;repeat clear hK K)
   (refine wk0 ?_;(repeat clear hK K);repeat refine kq fun K hK=>?_)
   refine rq0 Tryz.results109 ?_
   rw [hno]
def bsL {α : Type} [DecidableEq α] (g : Nat → α) (n s : Nat) : List Int := (nmG g s).1 ++ List.replicate (n - s) 0
theorem bsL_len {α : Type} [DecidableEq α] (g : Nat → α) {n s : Nat} (h : s ≤ n) : (bsL g n s).length = n := by simp [bsL, (nmG_ok g s).len]; omega
theorem bsL_lt {α : Type} [DecidableEq α] (g : Nat → α) {n s t : Nat} (h : t < s) (hs : s ≤ n) : (bsL g n s)[t]? = some ((nmG g s).1.getD t 0) := by
 have hl := (nmG_ok g s).len
 unfold bsL
 rw [List.getElem?_append_left (by omega), List.getD_eq_getElem?_getD, List.getElem?_eq_getElem (by omega)]; rfl
theorem bsL_set {α : Type} [DecidableEq α] (g : Nat → α) {n s : Nat} (h : s < n) {v : Int} {L : List Int} {m : Nat} (hn : nmG g (s + 1) = (L ++ [v], m)) (hL : L = (nmG g s).1) : (bsL g n s).set s v = bsL g n (s + 1) := by
 obtain ⟨q, hq⟩ : ∃ q, n - s = q + 1 := ⟨n - s - 1, by omega⟩
 have hq2 : n - (s + 1) = q := by omega
 have hl := (nmG_ok g s).len
 unfold bsL
 rw [hn, hq, hq2, List.replicate_succ, List.set_append_right _ _ (by omega), hl, Nat.sub_self, List.set_cons_zero, hL]
 simp
theorem bsL_end {α : Type} [DecidableEq α] (g : Nat → α) (n : Nat) : bsL g n n = (nmG g n).1 := by simp [bsL]
set_option maxHeartbeats 8000000 in
theorem split_fc (S : List (List Ar)) (c : List Int) (hn : S.length ≤ 1000000) (hr : ∀ r ∈ S, r.length ≤ 1000000) (hc : c.length = S.length) (hb : ∀ r ∈ S, ∀ a ∈ r, 0 ≤ a.2 ∧ a.2 < (S.length : Int)) : FC Tryz.prog 88 [.a (.c (.t 1 (tRows S))), aInts c] [] (fun r o => r = .a (.c (.s 0 S.length)) ∧ o = [.r ⟨3, 1, true, cInts (nxS S c)⟩]) := by
 refine fc_intro Tryz.func88 rfl (by rw [Tryz.ntmps88]; simp) ?_
 rw [Tryz.ntmps88]
 simp only [enum, aInts]
 have hnx : nxS S c = (nmG (ftS S c) S.length).1 := rfl
 have hgd : ∀ s, s < S.length → S.getD s [] = S[s]?.getD [] := fun s _ => List.getD_eq_getElem?_getD
 have hfeq : ∀ s t, s < S.length → t < S.length → (ftS S c t = ftS S c s ↔ c.getD t 0 = c.getD s 0 ∧ covB c (S.getD s []) (S.getD t []) = true ∧ covB c (S.getD t []) (S.getD s []) = true) := fun s t _ _ => by
  unfold ftS
  rw [Prod.mk.injEq, eq_comm (a := imR S c t), cov_iff]
 (refine wk1 @tRows_len ?_;(repeat clear hK K);repeat refine kq fun K hK=>?_)
 have e0 : List.replicate S.length (C.v (.int .i64 0)) = cInts (bsL (ftS S c) S.length 0) := by simp [cInts, bsL, nmG]
 rw [e0]
 refine aw_loop (fun s : Nat => { tm := [(0, .a (.c (.t 1 (tRows S)))), (1, .a (.c (.t 1 (tInts c)))), (5, .a (.c (.s 0 S.length))), (6, .i (nmG (ftS S c) s).2), (7, .i s)], hp := [.r ⟨3, 1, true, cInts (bsL (ftS S c) S.length s)⟩], n := 85, pin := 0 }) (fun s => s ≤ S.length) (fun s => S.length - s) 0 ?_ ?_ ?_
 ·omega
 ·simp only [nmG]
  exact lmz
 ·rintro s hs K hK
  by_cases hlt : s < S.length
  ·have d1 : decide ((s : Int) < (S.length : Int)) = true := by simpa using hlt
   have hgS := List.getElem?_eq_getElem hlt
   have hrl := hr _ (List.getElem_mem hlt)
   have hbs := hb _ (List.getElem_mem hlt)
   have hsc : s < c.length := by rw [hc]; exact hlt
   have hcs : c[s]? = some c[s] := List.getElem?_eq_getElem hsc
   have gcs := tInts_get hcs
   have hlb := bsL_len (ftS S c) hs
   have hbl := fun t (h : t < s) => bsL_lt (ftS S c) (n := S.length) h hs
   have hok := nmG_ok (ftS S c) s
   have hcnt := hok.cnt
   have hset := fun v L m => bsL_set (ftS S c) (n := S.length) hlt (v := v) (L := L) (m := m)
   have hS1 : S.getD s [] = S[s] := by rw [List.getD_eq_getElem?_getD, hgS]; rfl
   generalize hB : bsL (ftS S c) S.length s = B at *
   have hset2 : ∀ v w : Int, (B.set s v).set s w = B.set s w := fun v w => by simp
   (refine wk1 (an @tRows_len @d1) ?_;(repeat clear hK K);repeat refine kq fun K hK=>?_)
   refine cxz ?_
   (refine wks1 (an @cInts_len (an @hlb @cInts_set)) ?_;(repeat clear hK K);repeat refine kq fun K hK=>?_)
   refine aw_loop (fun x : Nat × Int => { tm := [(0, .a (.c (.t 1 (tRows S)))), (1, .a (.c (.t 1 (tInts c)))), (5, .a (.c (.s 0 S.length))), (6, .i (nmG (ftS S c) s).2), (7, .i s), (8, .i x.1)], hp := [.r ⟨3, 1, true, cInts (B.set s x.2)⟩], n := 85, pin := 0 }) (fun x => x.1 ≤ s ∧ ((x.2 = -1 ∧ ∀ u, u < x.1 → ftS S c u ≠ ftS S c s) ∨ ∃ t, x.1 = t + 1 ∧ ftS S c t = ftS S c s ∧ (∀ u, u < t → ftS S c u ≠ ftS S c s) ∧ x.2 = (nmG (ftS S c) s).1.getD t 0)) (fun x => s - x.1) (0, -1) ?_ ?_ ?_
   ·exact ⟨by simp, .inl ⟨rfl, fun u h => by simp at h⟩⟩
   ·exact lmz
   ·rintro ⟨t, v⟩ ⟨ht, hv⟩ K hK
    simp only at ht hv
    have gv : (cInts (B.set s v))[s]? = some (.v (.int .i64 v)) := cInts_get (List.getElem?_set_self (by omega))
    by_cases hgo : t < s ∧ v < 0
    ·obtain ⟨hts, hv0⟩ := hgo
     obtain ⟨hve, hno⟩ : v = -1 ∧ ∀ u, u < t → ftS S c u ≠ ftS S c s := by
      rcases hv with h | ⟨t', h1, _, _, h4⟩
      ·exact h
      ·have := hok.rng t' (by omega); omega
     have d2 : decide ((t : Int) < (s : Int)) = true := by simpa using hts
     have d3 : decide (v < 0) = true := by simpa using hv0
     have htl : t < S.length := by omega
     have hgT := List.getElem?_eq_getElem htl
     have hrt := hr _ (List.getElem_mem htl)
     have hbt := hb _ (List.getElem_mem htl)
     have gct := tInts_get (List.getElem?_eq_getElem (show t < c.length by omega))
     have hS2 : S.getD t [] = S[t] := by rw [List.getD_eq_getElem?_getD, hgT]; rfl
     have gvt : (cInts (B.set s v))[t]? = some (.v (.int .i64 ((nmG (ftS S c) s).1.getD t 0))) := cInts_get (by rw [List.getElem?_set_ne (by omega)]; exact hbl t hts)
     have hfe := hfeq s t hlt htl
     rw [hS1, hS2, List.getD_eq_getElem?_getD, List.getD_eq_getElem?_getD, List.getElem?_eq_getElem (show t < c.length by omega), hcs, Option.getD_some, Option.getD_some] at hfe
     have hgetS := tRows_get hgS
     have hgetT := tRows_get hgT
     generalize S[s] = rs at *
     generalize S[t] = rt at *
     (refine wk1 (an @d2 (an @cInts_len (an @List.length_set.{0} (an @hlb (an @gv @d3))))) ?_;(repeat clear hK K);repeat refine kq fun K hK=>?_)
     refine cxz ?_
     (refine wk0 ?_;(repeat clear hK K);repeat refine kq fun K hK=>?_)
     (refine aw_regionV [] [(0, 0, 0), (1, 0, 0), (2, 0, 0), (3, 1, 19), (4, 0, 0), (5, 0, 0), (6, 0, 0), (7, 1, 19), (8, 0, 0), (9, 0, 0), (10, 0, 0), (11, 0, 0), (12, 0, 0), (13, 1, 19), (14, 0, 0), (15, 0, 0), (16, 0, 0), (17, 1, 19), (18, 0, 0), (19, 2, 0), (20, 0, 0), (21, 0, 0), (22, 0, 0), (23, 0, 0), (24, 0, 0), (25, 1, 31), (26, 0, 0), (27, 0, 0), (28, 0, 0), (29, 1, 31), (30, 0, 0), (31, 2, 0), (32, 0, 0)] (by kernel_rfl) (by kernel_rfl) (by intro c st h; simp [ThenA, InBl, Ret] at h) ?_)
     by_cases q1 : c[t] = c[s]
     ·have d4 : (c[t] == c[s]) = true := by simpa using q1
      (refine vk1 (an @tInts_len (an @hc (an @gct (an @gcs (an @d4 (an @tRows_len (an @hgetS @hgetT))))))) ?_; repeat clear hK K)
      (refine v_2g rfl rfl rfl (by simp only [go_sem] <;> rfl) ?_; intro K1 hK1; refine stpX_mono ?_; refine xv [] (cov_fc rs rt c (by omega) (by omega) (by omega) (by rw [hc]; exact hbs) (by rw [hc]; exact hbt)) ?_ ?_)
      ·rintro _ _ ⟨rfl, rfl⟩ i o hi hl; simp at hl
      rintro _ _ ⟨rfl, rfl⟩
      (refine bkz ?_; clear hK1 K1)
      cases q2 : covB c rs rt with
      | true =>
       (refine vk1 (an @tInts_len (an @hc (an @gct (an @gcs (an @d4 (an @tRows_len (an @hgetS @hgetT))))))) ?_; repeat clear hK K)
       (refine v_2g rfl rfl rfl (by simp only [go_sem] <;> rfl) ?_; intro K1 hK1; refine stpX_mono ?_; refine xv [] (cov_fc rt rs c (by omega) (by omega) (by omega) (by rw [hc]; exact hbt) (by rw [hc]; exact hbs)) ?_ ?_)
       ·rintro _ _ ⟨rfl, rfl⟩ i o hi hl; simp at hl
       rintro _ _ ⟨rfl, rfl⟩
       (refine bkz ?_; clear hK1 K1)
       cases q3 : covB c rt rs with
       | true =>
        have hyes := hfe.2 ⟨q1, q2, q3⟩
        (refine vk0 ?_; repeat clear hK K)
        refine cxz ?_
        (refine wks1 (an @cInts_len (an @List.length_set.{0} (an @hlb (an @gvt (an @cInts_set @List.set_set.{0}))))) ?_;(repeat clear hK K);repeat refine kq fun K hK=>?_)
        refine rnz ?_
        refine hK _ (t + 1, (nmG (ftS S c) s).1.getD t 0) ⟨by simp only; omega, .inr ⟨t, rfl, hyes, hno, rfl⟩⟩ (by simp only; omega) ?_
        exact lmz
       | false =>
        (refine vk0 ?_; repeat clear hK K)
        refine cyz ?_
        (refine wk0 ?_;(repeat clear hK K);repeat refine kq fun K hK=>?_)
        refine rnz ?_
        refine hK _ (t + 1, v) ⟨by simp only; omega, .inl ⟨hve, fun u hu e => ?_⟩⟩ (by simp only; omega) ?_
        ·simp only at hu
         by_cases eu : u = t
         ·subst eu
          have h3 := hfe.1 e
          have h4 := q3
          simp [h3] at h4
         ·exact hno u (by omega) e
        ·exact lmz
      | false =>
       (refine vk0 ?_; repeat clear hK K)
       refine cyz ?_
       (refine wk0 ?_;(repeat clear hK K);repeat refine kq fun K hK=>?_)
       refine rnz ?_
       refine hK _ (t + 1, v) ⟨by simp only; omega, .inl ⟨hve, fun u hu e => ?_⟩⟩ (by simp only; omega) ?_
       ·simp only at hu
        by_cases eu : u = t
        ·subst eu
         have h3 := hfe.1 e
         have h4 := q2
         simp [h3] at h4
        ·exact hno u (by omega) e
       ·exact lmz
     ·have d4 : (c[t] == c[s]) = false := by simpa using q1
      (refine vk1 (an @tInts_len (an @hc (an @gct (an @gcs @d4)))) ?_; repeat clear hK K)
      refine cyz ?_
      (refine wk0 ?_;(repeat clear hK K);repeat refine kq fun K hK=>?_)
      refine rnz ?_
      refine hK _ (t + 1, v) ⟨by simp only; omega, .inl ⟨hve, fun u hu e => ?_⟩⟩ (by simp only; omega) ?_
      ·simp only at hu
       by_cases eu : u = t
       ·subst eu
        have h3 := hfe.1 e
        have h4 := q1
        simp [h3] at h4
       ·exact hno u (by omega) e
      ·exact lmz
    ·have hcond : (decide ((t : Int) < (s : Int)) = true ∧ decide (v < 0) = false) ∨ decide ((t : Int) < (s : Int)) = false := by
      by_cases hts : t < s
      ·left; exact ⟨by simpa using hts, by simp; exact Int.not_lt.1 fun h => hgo ⟨hts, h⟩⟩
      ·right; simpa using hts
     rcases hcond with ⟨d2, d3⟩ | d2
     ·(refine wk1 (an @d2 (an @cInts_len (an @List.length_set.{0} (an @hlb (an @gv @d3))))) ?_;(repeat clear hK K);repeat refine kq fun K hK=>?_)
      refine cyz ?_
      (refine ekz ?_;repeat clear hK K)
      rcases hv with ⟨hve, hno⟩ | ⟨t', h1, h2, h3, h4⟩
      ·have hts : t = s := by
        rcases Nat.lt_or_ge t s with h | h
        ·exact absurd ⟨h, by omega⟩ hgo
        ·omega
       rw [hts] at hno
       have hnm := nmG_none (nm_find_none hno)
       have hst := hset _ _ _ hnm rfl
       have d4 : decide (v < 0) = true := by simp; omega
       (refine wk1 (an @cInts_len (an @List.length_set.{0} (an @hlb (an @gv @d4)))) ?_;(repeat clear hK K);repeat refine kq fun K hK=>?_)
       refine cxz ?_
       (refine wks1 (an @cInts_len (an @List.length_set.{0} (an @hlb (an @cInts_set (an @List.set_set.{0} @hst))))) ?_;(repeat clear hK K);repeat refine kq fun K hK=>?_)
       refine rnz ?_
       refine hK _ (s + 1) (by omega) (by omega) ?_
       rw [hnm]
       exact lmz
      ·have hnm := nmG_some (nm_find_some (f := ftS S c) (show t' < s by omega) h2 h3)
       have hst := hset _ _ _ hnm rfl
       rw [← h4] at hst
       have h0 := hok.rng t' (by omega)
       have d4 : decide (v < 0) = false := by simp; omega
       rw [hst]
       rw [hst] at gv
       have hlb2 := bsL_len (ftS S c) (n := S.length) (s := s + 1) (by omega)
       (refine wk1 (an @cInts_len (an @hlb2 (an @gv @d4))) ?_;(repeat clear hK K);repeat refine kq fun K hK=>?_)
       refine cyz ?_
       (refine wk0 ?_;(repeat clear hK K);repeat refine kq fun K hK=>?_)
       refine rnz ?_
       refine hK _ (s + 1) (by omega) (by omega) ?_
       rw [hnm]
       exact lmz
     ·(refine wk1 @d2 ?_;(repeat clear hK K);repeat refine kq fun K hK=>?_)
      refine cyz ?_
      (refine ekz ?_;repeat clear hK K)
      rcases hv with ⟨hve, hno⟩ | ⟨t', h1, h2, h3, h4⟩
      ·have hts : t = s := by
        rcases Nat.lt_or_ge t s with h | h
        ·exact absurd ⟨h, by omega⟩ hgo
        ·omega
       rw [hts] at hno
       have hnm := nmG_none (nm_find_none hno)
       have hst := hset _ _ _ hnm rfl
       have d4 : decide (v < 0) = true := by simp; omega
       (refine wk1 (an @cInts_len (an @List.length_set.{0} (an @hlb (an @gv @d4)))) ?_;(repeat clear hK K);repeat refine kq fun K hK=>?_)
       refine cxz ?_
       (refine wks1 (an @cInts_len (an @List.length_set.{0} (an @hlb (an @cInts_set (an @List.set_set.{0} @hst))))) ?_;(repeat clear hK K);repeat refine kq fun K hK=>?_)
       refine rnz ?_
       refine hK _ (s + 1) (by omega) (by omega) ?_
       rw [hnm]
       exact lmz
      ·have hnm := nmG_some (nm_find_some (f := ftS S c) (show t' < s by omega) h2 h3)
       have hst := hset _ _ _ hnm rfl
       rw [← h4] at hst
       have h0 := hok.rng t' (by omega)
       have d4 : decide (v < 0) = false := by simp; omega
       rw [hst]
       rw [hst] at gv
       have hlb2 := bsL_len (ftS S c) (n := S.length) (s := s + 1) (by omega)
       (refine wk1 (an @cInts_len (an @hlb2 (an @gv @d4))) ?_;(repeat clear hK K);repeat refine kq fun K hK=>?_)
       refine cyz ?_
       (refine wk0 ?_;(repeat clear hK K);repeat refine kq fun K hK=>?_)
       refine rnz ?_
       refine hK _ (s + 1) (by omega) (by omega) ?_
       rw [hnm]
       exact lmz
  ·have d1 : decide ((s : Int) < (S.length : Int)) = false := by simpa using hlt
   have hse : s = S.length := by omega
   rw [hse] at d1
   rw [hse, bsL_end, ← hnx]
   (refine wk1 (an @tRows_len @d1) ?_;(repeat clear hK K);repeat refine kq fun K hK=>?_)
   refine cyz ?_
   (refine ekz ?_;repeat clear hK K)
   (refine wk0 ?_;(repeat clear hK K);repeat refine kq fun K hK=>?_)
   exact rpc1 [0] Tryz.results88 @cInts_ren
end Go.Proofs.YtglchakimolfdaaGreatDoor
namespace Go.Proofs.YtglchakimolfdaaGreatDoor
set_option linter.unusedVariables false
set_option linter.unusedSimpArgs false
open Go.RowKit
set_option maxRecDepth 100000

end Go.Proofs.YtglchakimolfdaaGreatDoor
namespace Go.Proofs.YtglchakimolfdaaGreatDoor
set_option linter.unusedVariables false
set_option linter.unusedSimpArgs false
open Go.RowKit
set_option maxRecDepth 100000

theorem rints_fc (xs ys : List Int) (hn : xs.length ≤ 140737488355328) (hm : ys.length ≤ 140737488355328) : FC Tryz.prog 12 [aInts xs, aInts ys] [] (fun r o => o = [] ∧ r = .b (decide (xs = ys))) := by
 refine fc_intro Tryz.func12 rfl (by rw [Tryz.ntmps12]; simp) ?_
 rw [Tryz.ntmps12]
 simp only [enum, aInts]
 (refine wk1 @tInts_len ?_;(repeat clear hK K);repeat refine kq fun K hK=>?_)
 (refine aw_cnd ?_; intro X Y hX hY; simp only [go_sem])
 refine ⟨fun h => hX ?_, fun h => hY ?_⟩
 ·clear hX hY X Y
  (refine wk0 ?_;(repeat clear hK K);repeat refine kq fun K hK=>?_)
  refine rq0 Tryz.results12 ?_
  have : xs ≠ ys := by rintro rfl; simp at h
  simp [this]
 ·clear hX hY X Y
  have hlen : xs.length = ys.length := by simp at h; omega
  clear h
  (refine wk0 ?_;(repeat clear hK K);repeat refine kq fun K hK=>?_)
  refine aw_loop (fun k : Nat => { tm := [(0, .a (.c (.t 1 (tInts xs)))), (1, .a (.c (.t 1 (tInts ys)))), (5, .i k)], hp := [], n := 26, pin := 0 }) (fun k => k ≤ xs.length ∧ xs.take k = ys.take k) (fun k => xs.length - k) 0 ?_ ?_ ?_
  ·exact ⟨by omega, rfl⟩
  ·exact lmz
  ·rintro k ⟨hk, he⟩ K hK
   (refine wk1 @tInts_len ?_;(repeat clear hK K);repeat refine kq fun K hK=>?_)
   (refine aw_cnd ?_; intro X Y hX hY; simp only [go_sem])
   refine ⟨fun h => hX ?_, fun h => hY ?_⟩
   ·have hlt : k < xs.length := by simpa using h
    have hlt2 : k < ys.length := by omega
    clear hX hY X Y h
    (refine wk0 ?_;(repeat clear hK K);repeat refine kq fun K hK=>?_)
    (refine aw_regionU 8 [(0, 0), (1, 0), (2, 0), (3, 1), (4, 0), (5, 0), (6, 0), (7, 1), (8, 2)] (by kernel_rfl) (by kernel_rfl) (by intro c st h; simp [ThenA, InBl, Ret] at h) ?_)
    (refine uk1 (an @tInts_len (an (tInts_get (List.getElem?_eq_getElem hlt)) (tInts_get (List.getElem?_eq_getElem hlt2)))) ?_; repeat clear hK K)
    (refine aw_cnd ?_; intro X Y hX hY; simp only [go_sem])
    refine ⟨fun h => hX ?_, fun h => hY ?_⟩
    ·clear hX hY X Y
     (refine wk0 ?_;(repeat clear hK K);repeat refine kq fun K hK=>?_)
     refine rq0 Tryz.results12 ?_
     have : xs ≠ ys := by rintro rfl; simp at h
     simp [this]
    ·clear hX hY X Y
     (refine wk0 ?_;(repeat clear hK K);repeat refine kq fun K hK=>?_)
     refine rnz ?_
     refine hK _ (k + 1) ⟨by omega, ?_⟩ (by omega) ?_
     ·have h1 : xs[k] = ys[k] := by simpa using h
      rw [List.take_succ_eq_append_getElem hlt, List.take_succ_eq_append_getElem hlt2, he, h1]
     ·exact lmz
   ·have hge : k = xs.length := by simp at h; omega
    clear hX hY X Y
    (refine ekz ?_;repeat clear hK K)
    (refine wk0 ?_;(repeat clear hK K);repeat refine kq fun K hK=>?_)
    refine rq0 Tryz.results12 ?_
    have : xs = ys := by
     rw [hge, List.take_length, hlen, List.take_length] at he
     exact he
    simp [this]
end Go.Proofs.YtglchakimolfdaaGreatDoor
namespace Go.Proofs.YtglchakimolfdaaGreatDoor
set_option linter.unusedVariables false
set_option linter.unusedSimpArgs false
open Go.RowKit
set_option maxRecDepth 100000

end Go.Proofs.YtglchakimolfdaaGreatDoor
namespace Go.Proofs.YtglchakimolfdaaGreatDoor
set_option linter.unusedVariables false
set_option linter.unusedSimpArgs false
open Go.RowKit
set_option maxRecDepth 100000
attribute [local go_sem] List.set_cons_zero List.set_cons_succ List.map_cons List.map_nil List.take_succ_cons List.take_zero List.drop_zero List.drop_succ_cons C.pl C.one List.all_cons List.all_nil Bool.and_true Nat.mul_one Int.toNat_natCast

theorem evI_take {R : List (List Ar)} (hb : ∀ r ∈ R, ∀ a ∈ r, 0 ≤ a.1 ∧ a.1 ≤ 1025) {s k : Nat} (hs : s < R.length) : (evI (evG R s) (R[s].take k)).length ≤ 1026 := by
 obtain ⟨h1, h2, _, _⟩ := evG_ok hb s (by omega)
 refine asc_bd (evI_asc _ _ h1) fun x hx => ?_
 rcases (mem_evI _ _).1 hx with h | ⟨a, ha, rfl⟩
 ·simpa using h2 x h
 ·have := hb _ (List.getElem_mem hs) a (List.mem_of_mem_take ha); omega
set_option maxHeartbeats 2000000 in
theorem evs_fc (R : List (List Ar)) (hb : ∀ r ∈ R, ∀ a ∈ r, 0 ≤ a.1 ∧ a.1 ≤ 1025) (hn : R.length ≤ 1000000) (hr : ∀ r ∈ R, r.length ≤ 1000000) : FC Tryz.prog 89 [aLts R] [] (fun r o => o = [] ∧ r = aInts (evG R R.length)) := by
 refine fc_intro Tryz.func89 rfl (by rw [Tryz.ntmps89]; simp) ?_
 rw [Tryz.ntmps89]
 simp only [enum, aLts]
 (refine wk0 ?_;(repeat clear hK K);repeat refine kq fun K hK=>?_)
 (refine aw_le (le_frz (r := ⟨3, 1, true, cInts [0]⟩) 1 (tInts [0]) rfl (fz_c _) (show 0 < (1 : Nat) by omega)) ?_; simp only [ST.frz, A0.frz, AV.frz, C.frz, Nat.le_refl, List.set_cons_zero, List.set_cons_succ, go_sem, tInts_one, show (if 1 ≤ (tInts [0]).length then C.t 1 (tInts [0]) else C.u) = C.t 1 (tInts [0]) from rfl])
 refine aw_le (le_pick [0] rfl rfl) ?_
 (try simp only [List.set_nil, List.take_nil, List.take_zero, List.map_append, go_sem])
 have e0 : tInts [0] = tInts (evG R 0) := rfl
 rw [e0]
 refine aw_loop (fun s : Nat => { tm := [(1, .a (.c (.p 0 0))), (3, .a (.c (.t 1 (tInts (evG R s))))), (4, .i s)], hp := [.r ⟨25, 1, false, [.t 1 (tRows R)]⟩], n := 36, pin := 0 }) (fun s => s ≤ R.length) (fun s => R.length - s) 0 ?_ ?_ ?_
 ·omega
 ·exact lmz
 ·rintro s hs K hK
  by_cases hlt : s < R.length
  ·have d1 : decide ((s : Int) < (R.length : Int)) = true := by simpa using hlt
   have hgR := List.getElem?_eq_getElem hlt
   have hrl := hr _ (List.getElem_mem hlt)
   have hev := fun k => evI_take hb (k := k) hlt
   have hsu := evG_succ hlt
   generalize R[s] = row at *
   (refine wk1 (an @tRows_len @d1) ?_;(repeat clear hK K);repeat refine kq fun K hK=>?_)
   refine cxz ?_
   (refine wk0 ?_;(repeat clear hK K);repeat refine kq fun K hK=>?_)
   refine aw_loop (fun k : Nat => { tm := [(1, .a (.c (.p 0 0))), (3, .a (.c (.t 1 (tInts (evI (evG R s) (row.take k)))))), (4, .i s), (5, .i k)], hp := [.r ⟨25, 1, false, [.t 1 (tRows R)]⟩], n := 36, pin := 0 }) (fun k => k ≤ row.length) (fun k => row.length - k) 0 ?_ ?_ ?_
   ·omega
   ·simp only [List.take_zero, evI, List.foldl_nil]
    exact lmz
   ·rintro k hk K hK
    by_cases hlt2 : k < row.length
    ·have d2 : decide ((k : Int) < (row.length : Int)) = true := by simpa using hlt2
     have ha0 := tArcs_c0 hlt2
     have hsn := evI_snoc (evG R s) (row.take k) row[k]
     rw [← List.take_succ_eq_append_getElem hlt2] at hsn
     have hql := hev k
     generalize evI (evG R s) (row.take k) = q at *
     (refine wk1 (an @tRows_len (an (tRows_get hgR) (an @tArcs_len (an @half2 @d2)))) ?_;(repeat clear hK K);repeat refine kq fun K hK=>?_)
     refine cxz ?_
     (refine wk1 (an @tRows_len (an (tRows_get hgR) (an @tArcs_len (an @half2 @ha0)))) ?_;(repeat clear hK K);repeat refine kq fun K hK=>?_)
     (refine ckz (addT_fc q row[k].1 (by omega)) ?_; intro K1 hK1)
     rintro _ _ ⟨rfl, rfl⟩
     (refine bkz ?_; clear hK1 K1)
     (refine wk0 ?_;(repeat clear hK K);repeat refine kq fun K hK=>?_)
     refine rnz ?_
     refine hK _ (k + 1) (by omega) (by omega) ?_
     rw [hsn]
     exact lmz
    ·have d2 : decide ((k : Int) < (row.length : Int)) = false := by simpa using hlt2
     have htr : row.take k = row := List.take_of_length_le (by omega)
     rw [htr, ← hsu]
     (refine wk1 (an @tRows_len (an (tRows_get hgR) (an @tArcs_len (an @half2 @d2)))) ?_;(repeat clear hK K);repeat refine kq fun K hK=>?_)
     refine cyz ?_
     (refine ekz ?_;repeat clear hK K)
     (refine wk0 ?_;(repeat clear hK K);repeat refine kq fun K hK=>?_)
     refine rnz ?_
     refine hK _ (s + 1) (by omega) (by omega) ?_
     exact lmz
  ·have d1 : decide ((s : Int) < (R.length : Int)) = false := by simpa using hlt
   have hse : s = R.length := by omega
   rw [hse] at d1
   rw [hse]
   (refine wk1 (an @tRows_len @d1) ?_;(repeat clear hK K);repeat refine kq fun K hK=>?_)
   refine cyz ?_
   (refine ekz ?_;repeat clear hK K)
   (refine wk0 ?_;(repeat clear hK K);repeat refine kq fun K hK=>?_)
   ((try refine aw_ret ?_); (try simp only [ThenA, InBl]); refine ret_le (le_pick [] rfl rfl) ?_; (try simp only [List.set_nil, List.take_nil, List.take_zero, List.map_append, go_sem]); ((try refine aw_ret ?_); (try refine lst_nil ?_); (try simp only [ThenA, InBl]); refine ret_mk (by first | exact .inl rfl | exact .inr rfl) rfl ?_; simp only [rtn, resA, resL, resV, Tryz.results89, go_sem, true_and, and_true, aInts]))
noncomputable def waB (R : List (List Ar)) (Ev : List Int) (k : Nat) : List (List Ar) := waL R Ev k ++ List.replicate (R.length - k) []
theorem waB_len {R : List (List Ar)} {Ev : List Int} {k : Nat} (h : k ≤ R.length) : (waB R Ev k).length = R.length := by simp [waB, waL_len]; omega
theorem waB_0 {R : List (List Ar)} {Ev : List Int} {k : Nat} (h : k < R.length) : (waB R Ev k).set k [] = waB R Ev k := by
 obtain ⟨q, hq⟩ : ∃ q, R.length - k = q + 1 := ⟨R.length - k - 1, by omega⟩
 unfold waB
 rw [hq, List.replicate_succ, List.set_append_right _ _ (by rw [waL_len]; omega), waL_len, Nat.sub_self, List.set_cons_zero]
theorem waB_set {R : List (List Ar)} {Ev : List Int} {k : Nat} (h : k < R.length) : (waB R Ev k).set k (waR R Ev k) = waB R Ev (k + 1) := by
 obtain ⟨q, hq⟩ : ∃ q, R.length - k = q + 1 := ⟨R.length - k - 1, by omega⟩
 have hq2 : R.length - (k + 1) = q := by omega
 unfold waB
 rw [hq, hq2, List.replicate_succ, List.set_append_right _ _ (by rw [waL_len]; omega), waL_len, Nat.sub_self, List.set_cons_zero]
 simp [waL, List.range_succ]
set_option maxHeartbeats 8000000 in
theorem watD_fc (R : List (List Ar)) (hv : valB R = true) (hn : R.length ≤ 100) (hr : ∀ r ∈ R, r.length ≤ 1000000) : FC Tryz.prog 59 [aLts R, .b false] [] (fun r o => r = .a (.c (.s 0 R.length)) ∧ o = [.r ⟨45, 1, true, cRows (watR R)⟩]) := by
 refine fc_intro Tryz.func59 rfl (by rw [Tryz.ntmps59]; simp) ?_
 rw [Tryz.ntmps59]
 simp only [enum, aLts]
 have hlo : looB R = true := decide_eq_true (of_decide_eq_true hv).1
 have hbd := (of_decide_eq_true hlo).2.2.2
 have hb : ∀ r ∈ R, ∀ a ∈ r, 0 ≤ a.1 ∧ a.1 ≤ 1025 := fun r hr a ha => by have := hbd r hr a ha; omega
 obtain ⟨hE1, hE2, _, _⟩ := evG_ok hb R.length (Nat.le_refl _)
 have hEl : (evG R R.length).length ≤ 1026 := asc_bd hE1 (by simpa using hE2)
 have hsa : watR R = waL R (evG R R.length) R.length := rfl
 (refine wk0 ?_;(repeat clear hK K);repeat refine kq fun K hK=>?_)
 (refine ckz (evs_fc R hb (by omega) hr) ?_; intro K1 hK1)
 rintro _ _ ⟨rfl, rfl⟩
 (refine bkz ?_; clear hK1 K1)
 generalize evG R R.length = Ev at *
 (refine wk1 @tRows_len ?_;(repeat clear hK K);repeat refine kq fun K hK=>?_)
 have e0 : List.replicate R.length (C.o (2, 44) []) = cRowsO (waB R Ev 0) := by simp [cRowsO, waB, waL, tArcs]
 rw [e0]
 refine aw_loop (fun s : Nat => { tm := [(1, .b false), (2, .a (.c (.p 0 0))), (5, .a (.c (.t 1 (tInts Ev)))), (6, .a (.c (.s 1 R.length))), (7, .i s)], hp := [.r ⟨25, 1, false, [.t 1 (tRows R)]⟩, .r ⟨45, 1, true, cRowsO (waB R Ev s)⟩], n := 70, pin := 0 }) (fun s => s ≤ R.length) (fun s => R.length - s) 0 ?_ ?_ ?_
 ·omega
 ·exact lmz
 ·rintro s hs K hK
  by_cases hlt : s < R.length
  ·have d1 : decide ((s : Int) < (R.length : Int)) = true := by simpa using hlt
   have hB0 := waB_0 (Ev := Ev) hlt
   have hB1 := waB_set (Ev := Ev) hlt
   have hBl := waB_len (Ev := Ev) hs
   have hpl := fun k => waP_len hlo (Ev := Ev) hlt k
   unfold waR at hB1
   generalize waB R Ev s = B at *
   (refine wk1 (an @tRows_len @d1) ?_;(repeat clear hK K);repeat refine kq fun K hK=>?_)
   refine cxz ?_
   (refine wk0 ?_;(repeat clear hK K);repeat refine kq fun K hK=>?_)
   refine aw_loop (fun i : Nat => { tm := [(1, .b false), (2, .a (.c (.p 0 0))), (5, .a (.c (.t 1 (tInts Ev)))), (6, .a (.c (.s 1 R.length))), (7, .i s), (8, .i i)], hp := [.r ⟨25, 1, false, [.t 1 (tRows R)]⟩, .r ⟨45, 1, true, cRowsO (B.set s (waP R Ev s i))⟩], n := 70, pin := 0 }) (fun i => i ≤ Ev.length) (fun i => Ev.length - i) 0 ?_ ?_ ?_
   ·omega
   ·have e1 : waP R Ev s 0 = [] := by simp [waP]
    rw [e1, hB0]
    exact lmz
   ·rintro i hi K hK
    by_cases hli : i < Ev.length
    ·have d2 : decide ((i : Int) < (Ev.length : Int)) = true := by simpa using hli
     have ge := tInts_get (List.getElem?_eq_getElem hli)
     have hee := hE2 _ (List.getElem_mem hli)
     have hsu := waP_succ (R := R) (s := s) hli
     have hP := hpl i (by omega)
     have hPb : i * R.length ≤ 1026 * 100 := Nat.mul_le_mul (by omega) hn
     generalize Ev[i] = e at *
     have hdl := (wAL_bd hlo (e := e) hlt).1
     have hsaE : waE R s e = (wAL R s e).map fun u => (e, u) := rfl
     (refine wk1 (an @tInts_len @d2) ?_;(repeat clear hK K);repeat refine kq fun K hK=>?_)
     refine cxz ?_
     (refine wk0 ?_;(repeat clear hK K);repeat refine kq fun K hK=>?_)
     (refine aw_regionU 6 [(0, 1), (1, 0), (2, 0), (3, 0), (4, 0), (5, 1), (6, 2), (7, 0)] (by kernel_rfl) (by kernel_rfl) (by intro c st h; simp [ThenA, InBl, Ret] at h) ?_)
     (refine uk1 (an @tInts_len @ge) ?_; repeat clear hK K)
     (refine uckz (warr_fc R s e hv hlt (by omega) (by omega) (by omega) hr) ?_; intro K1 hK1)
     rintro _ _ ⟨W, hW, rfl, rfl⟩
     have hLL : W = wAL R s e := wArr_uniq hW (wAL_ok R s e)
     subst hLL
     (refine bkz ?_; clear hK1 K1)
     (refine uk0 ?_; repeat clear hK K)
     (refine wk0 ?_;(repeat clear hK K);repeat refine kq fun K hK=>?_)
     refine cyz ?_
     (refine wk0 ?_;(repeat clear hK K);repeat refine kq fun K hK=>?_)
     generalize wAL R s e = L at *
     (refine wk0 ?_;(repeat clear hK K);repeat refine kq fun K hK=>?_)
     refine aw_loop (fun k : Nat => { tm := [(1, .b false), (2, .a (.c (.p 0 0))), (5, .a (.c (.t 1 (tInts Ev)))), (6, .a (.c (.s 1 R.length))), (7, .i s), (8, .i i), (9, .a (.c (.t 1 (tInts L)))), (10, .i k)], hp := [.r ⟨25, 1, false, [.t 1 (tRows R)]⟩, .r ⟨45, 1, true, cRowsO (B.set s (waP R Ev s i ++ (L.take k).map fun u => (e, u)))⟩], n := 70, pin := 0 }) (fun k => k ≤ L.length) (fun k => L.length - k) 0 ?_ ?_ ?_
     ·omega
     ·simp only [List.take_zero, List.map_nil, List.append_nil]
      exact lmz
     ·rintro k hk K hK
      by_cases hlk : k < L.length
      ·have d3 : decide ((k : Int) < (L.length : Int)) = true := by simpa using hlk
       have gl := tInts_get (List.getElem?_eq_getElem hlk)
       have hsn : waP R Ev s i ++ (L.take (k + 1)).map (fun u => (e, u)) = (waP R Ev s i ++ (L.take k).map fun u => (e, u)) ++ [(e, L[k])] := by
        rw [List.take_succ_eq_append_getElem hlk, List.map_append, List.append_assoc]; rfl
       have hol : (waP R Ev s i ++ (L.take k).map fun u => (e, u)).length ≤ 200000 := by simp; omega
       generalize waP R Ev s i ++ (L.take k).map (fun u => (e, u)) = oc at *
       have hgo : (B.set s oc)[s]? = some oc := List.getElem?_set_self (by omega)
       have hsl : (B.set s oc).length = R.length := by simp [hBl]
       (refine wk1 (an @tInts_len @d3) ?_;(repeat clear hK K);repeat refine kq fun K hK=>?_)
       refine cxz ?_
       (refine wk0 ?_;(repeat clear hK K);repeat refine kq fun K hK=>?_)
       (refine aw_regionZ [] (.m 0 0 0 (.m 1 0 0 (.m 2 0 0 (.m 3 0 0 (.m 4 0 0 (.m 5 1 16 (.m 6 0 0 (.m 7 0 0 (.m 8 0 0 (.m 9 1 15 (.m 10 0 0 (.m 11 0 0 (.m 12 0 0 (.m 13 1 15 (.m 14 0 0 (.a 15 (.a 16 (.m 17 0 0 (.a 18 .e))))))))))))))))))) (by kernel_rfl) (by kernel_rfl) (by intro c st h; simp [ThenA, InBl, Ret] at h) ?_)
       (refine zk1 (an @cRowsO_len (an (cRowsO_get hgo) (an @hsl (an @tInts_len (an @ge @gl))))) ?_; repeat clear hK K)
       (refine z_2 rfl rfl ?_; intro K1 hK1; refine stpF_a rfl ?_; simp only [go_sem]; (first | refine hK1 _ ?_ | refine andk (hK1 _ ?_)); clear hK1 K1)
       (refine z_2y rfl rfl rfl ?_; intro K1 hK1; refine stpY_ap rfl rfl rfl rfl (by first | rfl | simp only [rowsB, List.getD_cons_zero, List.getD_cons_succ, hne, List.isEmpty_cons, Bool.not_false, Bool.true_and, Bool.and_true, Bool.and_self]) rfl ?_; simp only [go_sem, tArcs_c, tArcs_len, half2, cArcs_snoc, cRowsO_get hgo]; (first | refine hK1 _ ?_ | refine andk (hK1 _ ?_)); clear hK1 K1)
       (refine zk1 (an @cRowsO_len @hsl) ?_; repeat clear hK K)
       (refine z_3 rfl rfl rfl rfl ?_; intro K1 hK1; refine stp_ev rfl ?_; simp only [go_sem, cRowsO_len, List.length_set, set_two3, hsl]; (first | refine hK1 _ ?_ | refine andk (hK1 _ ?_)); clear hK1 K1)
       refine z_nil ⟨by simp, by simp, ?_⟩
       (try simp only [ThenA, InBl])
       refine hK _ ?_
       clear hK K
       have hj6 : ((cRowsO (B.set s oc)).set s (C.s 3 (oc.length + 1)))[s]? = some (.s 3 (oc.length + 1)) := by rw [List.getElem?_set_self (by rw [cRowsO_len]; omega)]
       have hset6 : ((cRowsO (B.set s oc)).set s (C.s 3 (oc.length + 1))).set s (.o (2, 44) (tArcs (oc ++ [(e, L[k])]))) = cRowsO (B.set s (oc ++ [(e, L[k])])) := by rw [set_two3, cRowsO_set, List.set_set]
       refine aw_le (le_sink (r := ⟨44, 2, true, cArcs (oc ++ [(e, L[k])])⟩) (ri := ⟨45, 1, true, (cRowsO (B.set s oc)).set s (C.s 3 (oc.length + 1))⟩) (ts := tArcs (oc ++ [(e, L[k])])) 1 s 3 (oc.length + 1) (by decide) rfl hj6 rfl rfl (show 0 < 2 by omega) (by rw [cArcs_len]; simp) (fz_ca _)) ?_
       simp only [hset6, go_sem]
       (refine wk0 ?_;(repeat clear hK K);repeat refine kq fun K hK=>?_)
       refine rnz ?_
       refine hK _ (k + 1) (by omega) (by omega) ?_
       refine Le.trans (le_pick [0, 1] rfl rfl) ?_
       (try simp only [List.set_nil, List.take_nil, List.take_zero, List.map_append, go_sem])
       (try simp only [cRowsO_ren])
       rw [hsn]
       exact lmz
      ·have d3 : decide ((k : Int) < (L.length : Int)) = false := by simpa using hlk
       have htk : L.take k = L := List.take_of_length_le (by omega)
       rw [htk, ← hsaE, ← hsu]
       (refine wk1 (an @tInts_len @d3) ?_;(repeat clear hK K);repeat refine kq fun K hK=>?_)
       refine cyz ?_
       (refine ekz ?_;repeat clear hK K)
       (refine wk0 ?_;(repeat clear hK K);repeat refine kq fun K hK=>?_)
       refine rnz ?_
       refine hK _ (i + 1) (by omega) (by omega) ?_
       exact lmz
    ·have d2 : decide ((i : Int) < (Ev.length : Int)) = false := by simpa using hli
     have hie : i = Ev.length := by omega
     rw [hie, hB1]
     rw [hie] at d2
     (refine wk1 (an @tInts_len @d2) ?_;(repeat clear hK K);repeat refine kq fun K hK=>?_)
     refine cyz ?_
     (refine ekz ?_;repeat clear hK K)
     (refine wk0 ?_;(repeat clear hK K);repeat refine kq fun K hK=>?_)
     refine rnz ?_
     refine hK _ (s + 1) (by omega) (by omega) ?_
     exact lmz
  ·have d1 : decide ((s : Int) < (R.length : Int)) = false := by simpa using hlt
   have hse : s = R.length := by omega
   have hend : waB R Ev R.length = watR R := by rw [hsa]; simp [waB]
   rw [hse] at d1
   rw [hse, hend]
   (refine wk1 (an @tRows_len @d1) ?_;(repeat clear hK K);repeat refine kq fun K hK=>?_)
   refine cyz ?_
   (refine ekz ?_;repeat clear hK K)
   refine aw_le (le_ot 1 rfl) ?_
   simp only [cRowsO_ot, go_sem]
   (refine wk0 ?_;(repeat clear hK K);repeat refine kq fun K hK=>?_)
   exact rpc1 [1] Tryz.results59 @cRows_ren
theorem watT_fc (R : List (List Ar)) (hv : valB R = true) (hn : R.length ≤ 100) (hr : ∀ r ∈ R, r.length ≤ 1000000) : FC Tryz.prog 59 [aLts R, .b false] [] (fun r o => o = [] ∧ r = .a (.c (.t 1 (tRows (watR R))))) :=
 (watD_fc R hv hn hr).frz (fz_cr _) (by omega) (by rw [tRows_len, (watR_bd hv hn).1, Nat.mul_one])
theorem stp_bne {P : Program} {o : Oper} {st : ST} {K : ST → Prop} {t yt : TypeId} {x y : Operand} {a b : Bool} (hu : P.underlying t = some .bool) (hd : dok o st.n = true) (ho : o.op = .binOp .neq t x y yt) (hx : st.ev x = .b a) (hy : st.ev y = .b b)
  (h : K (st.put o.dst (.b (!(a == b))))) : Stp P o st K := by
 refine stp_val (v := .b (!(a == b))) hd (fun g w ρ hr hR => ?_) h
 have e1 := hR x
 have e2 := hR y
 rw [hx] at e1
 rw [hy] at e2
 have e1 : ρ x = .bool a := e1
 have e2 : ρ y = .bool b := e2
 refine ⟨.bool (!(a == b)), ?_, rfl⟩
 obtain ⟨dst, op, ty, pos, af, gd⟩ := o
 simp only at ho
 subst ho
 simp only [execOp, e1, e2]
 simp [eqGuard, binOp, run_eqB hu]
theorem cS_take (xs : List (List Int)) (n : Nat) : (cSets xs).take n = cSets (xs.take n) := by simp [cSets, List.map_take]
theorem cS_snoc (xs : List (List Int)) (x : List Int) : cSets xs ++ [.t 1 (tInts x)] = cSets (xs ++ [x]) := by simp [cSets]
theorem splitT_fc (S : List (List Ar)) (c : List Int) (hn : S.length ≤ 1000000) (hr : ∀ r ∈ S, r.length ≤ 1000000) (hc : c.length = S.length) (hb : ∀ r ∈ S, ∀ a ∈ r, 0 ≤ a.2 ∧ a.2 < (S.length : Int)) : FC Tryz.prog 88 [.a (.c (.t 1 (tRows S))), aInts c] [] (fun r o => o = [] ∧ r = .a (.c (.t 1 (tInts (nxS S c))))) :=
 (split_fc S c hn hr hc hb).frz (fz_c _) (by omega) (by rw [tInts_len, (nx_nrm S c).len, Nat.mul_one])
def RdH (S : List (List Ar)) (c : List Int) (H : List (List Int)) : Prop := ∃ k, H.length = k + 1 ∧ H[k]? = some (itS S c k) ∧ Nrm S.length (itS S c k) ∧ k ≤ S.length ∧ nxS S (itS S c k) = itS S c k
set_option maxHeartbeats 2000000 in
theorem rounds_fc (S : List (List Ar)) (c : List Int) (hn : S.length ≤ 1000000) (hr : ∀ r ∈ S, r.length ≤ 1000000) (hc : Nrm S.length c) (hb : ∀ r ∈ S, ∀ a ∈ r, 0 ≤ a.2 ∧ a.2 < (S.length : Int)) : FC Tryz.prog 58 [.a (.c (.t 1 (tRows S))), aInts c] [] (fun r o => ∃ H, RdH S c H ∧ r = .a (.c (.s 0 H.length)) ∧ o = [.r ⟨22, 1, true, cSets H⟩]) := by
 refine fc_intro Tryz.func58 rfl (by rw [Tryz.ntmps58]; simp) ?_
 rw [Tryz.ntmps58]
 simp only [enum, aInts]
 (refine wk0 ?_;(repeat clear hK K);repeat refine kq fun K hK=>?_)
 refine aw_loop (fun x : Nat × List (List Int) => { tm := [(0, .a (.c (.t 1 (tRows S)))), (5, .a (.c (.s 0 x.2.length)))], hp := [.r ⟨22, 1, true, cSets x.2⟩], n := 27, pin := 0 }) (fun x => x.2.length = x.1 + 1 ∧ x.2[x.1]? = some (itS S c x.1) ∧ Nrm S.length (itS S c x.1) ∧ x.1 ≤ cntC S.length (itS S c x.1)) (fun x => S.length + 1 - cntC S.length (itS S c x.1)) (0, [c]) ?_ ?_ ?_
 ·exact ⟨rfl, rfl, hc, Nat.zero_le _⟩
 ·have e0 : [C.t 1 (tInts c)] = cSets [c] := rfl
  simp only [e0, List.length_cons, List.length_nil]
  exact lmz
 ·rintro ⟨k, H⟩ ⟨hl, hg, hN, hk⟩ K hK
  simp only at hl hg hN hk ⊢
  have hcn := cnt_le S.length (itS S c k)
  have hit : itS S c (k + 1) = nxS S (itS S c k) := rfl
  have hnl := nx_lt hN
  have hnn := nx_nrm S (itS S c k)
  have hNl := hN.len
  have e1 : ((H.length : Int) - 1) = (k : Int) := by omega
  have gl : (cSets H)[k]? = some (.t 1 (tInts (itS S c k))) := cSets_get hg
  have hsp := splitT_fc S (itS S c k) hn hr hNl hb
  generalize hd : itS S c k = d at *
  (refine wk1 (an @e1 (an @cSets_len @gl)) ?_;(repeat clear hK K);repeat refine kq fun K hK=>?_)
  (refine ckz hsp ?_; intro K1 hK1)
  rintro _ _ ⟨rfl, rfl⟩
  (refine bkz ?_; clear hK1 K1)
  (refine wk0 ?_;(repeat clear hK K);repeat refine kq fun K hK=>?_)
  (refine ckz (rints_fc d (nxS S d) (by omega) (by have := hnn.len; omega)) ?_; intro K1 hK1)
  rintro _ _ ⟨rfl, rfl⟩
  (refine bkz ?_; clear hK1 K1)
  by_cases he : d = nxS S d
  ·have d1 : decide (d = nxS S d) = true := by simpa using he
   rw [d1]
   (refine wk0 ?_;(repeat clear hK K);repeat refine kq fun K hK=>?_)
   refine cxz ?_
   (refine wk0 ?_;(repeat clear hK K);repeat refine kq fun K hK=>?_)
   refine rp1 [0] Tryz.results58 @cSets_ren ?_
   exact ⟨H, ⟨k, hl, by rw [hd]; exact hg, by rw [hd]; exact hN, by omega, by rw [hd]; exact he.symm⟩, rfl, rfl⟩
  ·have d1 : decide (d = nxS S d) = false := by simpa using he
   rw [d1]
   have hlt := hnl (Ne.symm he)
   have hnc := cnt_le S.length (nxS S d)
   (refine wk0 ?_;(repeat clear hK K);repeat refine kq fun K hK=>?_)
   refine cyz ?_
   (refine wk1 (an @cS_take (an @cS_snoc (an @tSets_len (an @cSets_len @List.take_length.{0})))) ?_;(repeat clear hK K);repeat refine kq fun K hK=>?_)
   refine rnz ?_
   refine hK _ (k + 1, H ++ [nxS S d]) ⟨by simp [hl], ?_, ?_, ?_⟩ ?_ ?_
   ·simp only
    rw [hit, List.getElem?_append_right (by omega), hl, Nat.sub_self]; rfl
   ·simp only; rw [hit]; exact hnn
   ·simp only; rw [hit]; omega
   ·simp only; rw [hit]; omega
   ·refine Le.trans (le_pick [2] rfl rfl) ?_
    (try simp only [List.set_nil, List.take_nil, List.take_zero, List.map_append, go_sem])
    (try simp only [cSets_ren])
    simp only [List.length_append, List.length_singleton]
    exact lmz
theorem roundsT_fc (S : List (List Ar)) (c : List Int) (hn : S.length ≤ 1000000) (hr : ∀ r ∈ S, r.length ≤ 1000000) (hc : Nrm S.length c) (hb : ∀ r ∈ S, ∀ a ∈ r, 0 ≤ a.2 ∧ a.2 < (S.length : Int)) : FC Tryz.prog 58 [.a (.c (.t 1 (tRows S))), aInts c] [] (fun r o => ∃ H, RdH S c H ∧ o = [] ∧ r = .a (.c (.t 1 (tSets H)))) :=
 (rounds_fc S c hn hr hc hb).frzP (fun H => fz_st H) (by omega) (fun H _ => by rw [tSets_len, Nat.mul_one])
def dvB (B : List Bool) (n s : Nat) : List Int := dvC B s ++ List.replicate (n - s) 0
theorem dvB_len {B : List Bool} {n s : Nat} (h : s ≤ n) : (dvB B n s).length = n := by simp [dvB, dvC_len]; omega
theorem dvB_step {B : List Bool} {n s : Nat} (h : s < n) : (dvB B n s).set s (dv0 B s) = dvB B n (s + 1) := by
 obtain ⟨q, hq⟩ : ∃ q, n - s = q + 1 := ⟨n - s - 1, by omega⟩
 have hq2 : n - (s + 1) = q := by omega
 unfold dvB
 rw [hq, hq2, List.replicate_succ, List.set_append_right _ _ (by rw [dvC_len]; omega), dvC_len, Nat.sub_self, List.set_cons_zero]
 simp [dvC, List.range_succ]
theorem dvB_zero {B : List Bool} {n s : Nat} (h : s < n) (h0 : dv0 B s = 0) : dvB B n s = dvB B n (s + 1) := by
 rw [← dvB_step h, h0]
 obtain ⟨q, hq⟩ : ∃ q, n - s = q + 1 := ⟨n - s - 1, by omega⟩
 unfold dvB
 rw [hq, List.replicate_succ, List.set_append_right _ _ (by rw [dvC_len]; omega), dvC_len, Nat.sub_self, List.set_cons_zero]
def WkC (R : List (List Ar)) (c : List Int) : Prop := ∃ B, DvL R B ∧ FxS (watR R) (dvC B R.length) c
set_option maxHeartbeats 2000000 in
theorem silW_fc (R : List (List Ar)) (hv : valB R = true) (hn : R.length ≤ 100) (hr : ∀ r ∈ R, r.length ≤ 1000000) : FC Tryz.prog 33 [aLts R, .b false] [] (fun r o => ∃ c, WkC R c ∧ Nrm R.length c ∧ o = [] ∧ r = aInts c) := by
 refine fc_intro Tryz.func33 rfl (by rw [Tryz.ntmps33]; simp) ?_
 rw [Tryz.ntmps33]
 simp only [enum, aLts]
 have hlo : looB R = true := decide_eq_true (of_decide_eq_true hv).1
 have h1 : 1 ≤ R.length := (of_decide_eq_true hlo).1
 (refine wk0 ?_;(repeat clear hK K);repeat refine kq fun K hK=>?_)
 (refine ckz (rdvgT_fc R hv (by omega) hr) ?_; intro K1 hK1)
 rintro _ _ ⟨B, hB, rfl, rfl⟩
 (refine bkz ?_; clear hK1 K1)
 have hBl := hB.1
 have hB2 : ∀ s, s < R.length → B[s]? = some (B.getD s false) := fun s hs => by rw [List.getD_eq_getElem?_getD, List.getElem?_eq_getElem (by omega)]; rfl
 (refine wk1 @tRows_len ?_;(repeat clear hK K);repeat refine kq fun K hK=>?_)
 have e0 : List.replicate R.length (C.v (.int .i64 0)) = cInts (dvB B R.length 0) := by simp [cInts, dvB, dvC]
 rw [e0]
 refine aw_loop (fun s : Nat => { tm := [(1, .b false), (2, .a (.c (.p 0 0))), (5, .a (.c (.t 1 (tBs B)))), (6, .a (.c (.s 1 R.length))), (7, .i s)], hp := [.r ⟨25, 1, false, [.t 1 (tRows R)]⟩, .r ⟨3, 1, true, cInts (dvB B R.length s)⟩], n := 43, pin := 0 }) (fun s => s ≤ R.length) (fun s => R.length - s) 0 ?_ ?_ ?_
 ·omega
 ·exact lmz
 ·rintro s hs K hK
  by_cases hlt : s < R.length
  ·have d1 : decide ((s : Int) < (R.length : Int)) = true := by simpa using hlt
   have gs := tBs_get (hB2 s hlt)
   have g0 := tBs_get (hB2 0 (by omega))
   have hl := dvB_len (B := B) hs
   have hst := dvB_step (B := B) hlt
   have hz := dvB_zero (B := B) hlt
   by_cases hq : B.getD s false = B.getD 0 false
   ·have d2 : (B.getD s false == B.getD 0 false) = true := by rw [hq]; simp
    have h0 : dv0 B s = 0 := by unfold dv0; rw [if_pos hq]
    (refine wk1 @d1 ?_;(repeat clear hK K);repeat refine kq fun K hK=>?_)
    refine cxz ?_
    (refine wk0 ?_;(repeat clear hK K);repeat refine kq fun K hK=>?_)
    (refine aw_regionU 7 [(0, 0), (1, 0), (2, 0), (3, 1), (4, 0), (5, 0), (6, 1), (7, 2)] (by kernel_rfl) (by kernel_rfl) (by intro c st h; simp [ThenA, InBl, Ret] at h) ?_)
    (refine uk1 (an @tBs_len (an @hBl (an @gs (an @g0 @Int.toNat_zero)))) ?_; repeat clear hK K)
    (refine u_w rfl rfl rfl ?_; intro K1 hK1; refine stp_bne (a := B.getD s false) (b := B.getD 0 false) Tryz.underlying4 rfl rfl (by simp only [go_sem]) (by simp only [go_sem]) ?_; simp only [go_sem, d2, Bool.not_true, Bool.not_false]; refine hK1 _ ?_; clear hK1 K1)
    (refine uk0 ?_; repeat clear hK K)
    refine cyz ?_
    (refine wk0 ?_;(repeat clear hK K);repeat refine kq fun K hK=>?_)
    refine rnz ?_
    refine hK _ (s + 1) (by omega) (by omega) ?_
    rw [hz h0]
    exact lmz
   ·have d2 : (B.getD s false == B.getD 0 false) = false := by simpa using hq
    have h0 : dv0 B s = 1 := by unfold dv0; rw [if_neg hq]
    rw [h0] at hst
    (refine wk1 @d1 ?_;(repeat clear hK K);repeat refine kq fun K hK=>?_)
    refine cxz ?_
    (refine wk0 ?_;(repeat clear hK K);repeat refine kq fun K hK=>?_)
    (refine aw_regionU 7 [(0, 0), (1, 0), (2, 0), (3, 1), (4, 0), (5, 0), (6, 1), (7, 2)] (by kernel_rfl) (by kernel_rfl) (by intro c st h; simp [ThenA, InBl, Ret] at h) ?_)
    (refine uk1 (an @tBs_len (an @hBl (an @gs (an @g0 @Int.toNat_zero)))) ?_; repeat clear hK K)
    (refine u_w rfl rfl rfl ?_; intro K1 hK1; refine stp_bne (a := B.getD s false) (b := B.getD 0 false) Tryz.underlying4 rfl rfl (by simp only [go_sem]) (by simp only [go_sem]) ?_; simp only [go_sem, d2, Bool.not_true, Bool.not_false]; refine hK1 _ ?_; clear hK1 K1)
    (refine uk0 ?_; repeat clear hK K)
    refine cxz ?_
    (refine wks1 (an @cInts_len (an @hl (an @cInts_set @hst))) ?_;(repeat clear hK K);repeat refine kq fun K hK=>?_)
    refine rnz ?_
    refine hK _ (s + 1) (by omega) (by omega) ?_
    exact lmz
  ·have d1 : decide ((s : Int) < (R.length : Int)) = false := by simpa using hlt
   have hse : s = R.length := by omega
   have hend : dvB B R.length R.length = dvC B R.length := by simp [dvB]
   rw [hse] at d1
   rw [hse, hend]
   (refine wk1 @d1 ?_;(repeat clear hK K);repeat refine kq fun K hK=>?_)
   refine cyz ?_
   (refine ekz ?_;repeat clear hK K)
   have hcl := dvC_len B R.length
   have hcn := dvC_nrm B h1
   have htk : (tInts (dvC B R.length)).take R.length = tInts (dvC B R.length) := List.take_of_length_le (by rw [tInts_len]; omega)
   have hif : (if R.length ≤ (tInts (dvC B R.length)).length then C.t 1 (tInts (dvC B R.length)) else C.u) = C.t 1 (tInts (dvC B R.length)) := if_pos (by rw [tInts_len]; omega)
   (refine aw_le (le_frz (r := ⟨3, 1, true, cInts (dvC B R.length)⟩) 1 (tInts (dvC B R.length)) rfl (fz_c _) (show 0 < (1 : Nat) by omega)) ?_; simp only [ST.frz, A0.frz, AV.frz, C.frz, Nat.le_refl, List.set_cons_zero, List.set_cons_succ, go_sem, htk, hif])
   obtain ⟨hSl, hSr⟩ := watR_bd hv hn
   (refine wk0 ?_;(repeat clear hK K);repeat refine kq fun K hK=>?_)
   (refine ckz (watT_fc R hv hn hr) ?_; intro K1 hK1)
   rintro _ _ ⟨rfl, rfl⟩
   (refine bkz ?_; clear hK1 K1)
   (refine wk0 ?_;(repeat clear hK K);repeat refine kq fun K hK=>?_)
   (refine ckz (roundsT_fc (watR R) (dvC B R.length) (by omega) (fun r h => (hSr r h).1) (by rw [hSl]; exact hcn) (fun r h a ha => by rw [hSl]; exact (hSr r h).2 a ha)) ?_; intro K1 hK1)
   rintro _ _ ⟨H, ⟨k, hH1, hH2, hH3, hH4, hH5⟩, rfl, rfl⟩
   (refine bkz ?_; clear hK1 K1)
   have e1 : ((H.length : Int) - 1) = (k : Int) := by omega
   have gl := tSets_get hH2
   (refine wk1 (an @tSets_len (an @e1 @gl)) ?_;(repeat clear hK K);repeat refine kq fun K hK=>?_)
   refine rp0 [] Tryz.results33 ?_
   exact ⟨_, ⟨B, hB, k, rfl, hH5⟩, by have h := hH3; rw [hSl] at h; exact h, rfl⟩
theorem rwk_fc (R : List (List Ar)) (hv : valB R = true) (hn : R.length ≤ 100) (hr : ∀ r ∈ R, r.length ≤ 1000000) : FC Tryz.prog 14 [aLts R] [] (fun r o => ∃ c, WkC R c ∧ Nrm R.length c ∧ o = [] ∧ r = aInts c) := by
 refine fc_intro Tryz.func14 rfl (by rw [Tryz.ntmps14]; simp) ?_
 rw [Tryz.ntmps14]
 simp only [enum, aLts]
 (refine wk0 ?_;(repeat clear hK K);repeat refine kq fun K hK=>?_)
 (refine ckz (validR_fc R (by omega) (fun r h => by have := hr r h; omega)) ?_; intro K1 hK1)
 rintro _ _ ⟨rfl, rfl⟩
 (refine bkz ?_; clear hK1 K1)
 (refine wk1 (an @hv @Bool.not_true) ?_;(repeat clear hK K);repeat refine kq fun K hK=>?_)
 refine cyz ?_
 (refine wk0 ?_;(repeat clear hK K);repeat refine kq fun K hK=>?_)
 (refine ckz (silW_fc R hv hn hr) ?_; intro K1 hK1)
 rintro _ _ ⟨c, hc, hN, rfl, rfl⟩
 (refine bkz ?_; clear hK1 K1)
 (refine wk0 ?_;(repeat clear hK K);repeat refine kq fun K hK=>?_)
 ((try refine aw_ret ?_); (try simp only [ThenA, InBl]); refine ret_le (le_pick [] rfl rfl) ?_; (try simp only [List.set_nil, List.take_nil, List.take_zero, List.map_append, go_sem]); ((try refine aw_ret ?_); (try refine lst_nil ?_); (try simp only [ThenA, InBl]); refine ret_mk (by first | exact .inl rfl | exact .inr rfl) rfl ?_; simp only [rtn, resA, resL, resV, Tryz.results14, go_sem, true_and, and_true, aInts]))
 exact ⟨c, hc, hN, rfl⟩
end Go.Proofs.YtglchakimolfdaaGreatDoor
