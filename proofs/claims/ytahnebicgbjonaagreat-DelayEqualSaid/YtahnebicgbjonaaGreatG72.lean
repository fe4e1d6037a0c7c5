/- ref25.hasArc, covers, split, rounds. ref23.OnCycle, ref23.Divergent. ref23.After, ref25.WeakArrows, Events. -/
import Derived.Test.YtahnebicgbjonaaGreatZk
import Derived.Test.YtahnebicgbjonaaGreatMF
import Derived.Test.YtahnebicgbjonaaGreatG45
import Derived.Test.YtahnebicgbjonaaGreatMG
import Derived.Test.YtahnebicgbjonaaGreatG12
namespace Go.Proofs.YtahnebicgbjonaaGreat
set_option linter.unusedVariables false
set_option linter.unusedSimpArgs false
open Go.RowKit
set_option maxRecDepth 100000
attribute [local go_sem] List.set_cons_zero List.set_cons_succ List.map_cons List.map_nil List.take_succ_cons List.take_zero List.drop_zero List.drop_succ_cons C.pl C.one List.all_cons List.all_nil Bool.and_true Nat.mul_one Int.toNat_natCast

theorem hasB_succ {c : List Int} {row : List Ar} {e x : Int} {k : Nat} (h : k < row.length) : hasB c (row.take (k + 1)) e x = (hasB c (row.take k) e x || (row[k].1 == e && c.getD row[k].2.toNat 0 == x)) := by
 unfold hasB
 rw [List.take_succ_eq_append_getElem h, List.any_append]
 simp
theorem hasA_fc (row : List Ar) (c : List Int) (e x : Int) (hn : row.length ≤ 140737488355328) (hc : c.length ≤ 140737488355328) (hb : ∀ a ∈ row, 0 ≤ a.2 ∧ a.2 < (c.length : Int)) : FC Tryz.prog 99 [aArcs row, aInts c, .i e, .i x] [] (fun r o => o = [] ∧ r = .b (hasB c row e x)) := by
 refine fc_intro Tryz.func99 rfl (by rw [Tryz.ntmps99]; simp) ?_
 rw [Tryz.ntmps99]
 simp only [enum, aArcs, aInts]
 (refine wk0 ?_;(repeat clear hK K);repeat refine kq fun K hK=>?_)
 refine aw_loop (fun k : Nat => { tm := [(0, .a (.c (.t 2 (tArcs row)))), (1, .a (.c (.t 1 (tInts c)))), (2, .i e), (3, .i x), (9, .i k)], hp := [], n := 35, pin := 0 }) (fun k => k ≤ row.length ∧ hasB c (row.take k) e x = false) (fun k => row.length - k) 0 ?_ ?_ ?_
 ·exact ⟨by omega, by simp [hasB]⟩
 ·exact lmz
 ·rintro k ⟨hk, hno⟩ K hK
  by_cases hlt : k < row.length
  ·have d1 : decide ((k : Int) < (row.length : Int)) = true := by simpa using hlt
   have hmem := List.getElem_mem hlt
   have hba := hb _ hmem
   have g0 := tArcs_c0 hlt
   have g1 := tArcs_c1 hlt
   have hst := hasB_succ (c := c) (e := e) (x := x) hlt
   have hall : hasB c (row.take (k + 1)) e x = true → hasB c row e x = true := fun h => by
    unfold hasB at h ⊢
    rw [List.any_eq_true] at h ⊢
    obtain ⟨y, h1, h2⟩ := h
    exact ⟨y, List.mem_of_mem_take h1, h2⟩
   generalize row[k] = a at *
   obtain ⟨e0, t⟩ := a
   simp only at g0 g1 hba hst
   obtain ⟨tn, rfl⟩ : ∃ tn : Nat, t = (tn : Int) := ⟨t.toNat, by omega⟩
   have htn : tn < c.length := by omega
   have gc := tInts_get (List.getElem?_eq_getElem htn)
   rw [hno, Bool.false_or, Int.toNat_natCast, List.getD_eq_getElem?_getD, List.getElem?_eq_getElem htn, Option.getD_some] at hst
   (refine wk1 (an @tArcs_len (an @half2 @d1)) ?_;(repeat clear hK K);repeat refine kq fun K hK=>?_)
   refine cxz ?_
   by_cases he : e0 = e
   ·have d2 : (e0 == e) = true := by simpa using he
    by_cases hx : c[tn] = x
    ·have d3 : (c[tn] == x) = true := by simpa using hx
     (refine wk1 (an @tArcs_len (an @half2 (an @g0 (an @g1 (an @d2 (an @tInts_len (an @gc @d3))))))) ?_;(repeat clear hK K);repeat refine kq fun K hK=>?_)
     refine cxz ?_
     (refine wk0 ?_;(repeat clear hK K);repeat refine kq fun K hK=>?_)
     refine rq0 Tryz.results99 ?_
     rw [hall (by rw [hst, d2, d3]; rfl)]
    ·have d3 : (c[tn] == x) = false := by simpa using hx
     (refine wk1 (an @tArcs_len (an @half2 (an @g0 (an @g1 (an @d2 (an @tInts_len (an @gc @d3))))))) ?_;(repeat clear hK K);repeat refine kq fun K hK=>?_)
     refine cyz ?_
     (refine wk0 ?_;(repeat clear hK K);repeat refine kq fun K hK=>?_)
     refine rnz ?_
     refine hK _ (k + 1) ⟨by omega, by rw [hst, d2, d3]; rfl⟩ (by omega) ?_
     exact lmz
   ·have d2 : (e0 == e) = false := by simpa using he
    (refine wk1 (an @tArcs_len (an @half2 (an @g0 (an @g1 @d2)))) ?_;(repeat clear hK K);repeat refine kq fun K hK=>?_)
    refine cyz ?_
    (refine wk0 ?_;(repeat clear hK K);repeat refine kq fun K hK=>?_)
    refine rnz ?_
    refine hK _ (k + 1) ⟨by omega, by rw [hst, d2]; rfl⟩ (by omega) ?_
    exact lmz
  ·have d1 : decide ((k : Int) < (row.length : Int)) = false := by simpa using hlt
   rw [List.take_of_length_le (by omega)] at hno
   (refine wk1 (an @tArcs_len (an @half2 @d1)) ?_;(repeat clear hK K);repeat refine kq fun K hK=>?_)
   refine cyz ?_
   (refine ekz ?_;repeat clear hK K)
   (refine wk0 ?_;(repeat clear hK K);repeat refine kq fun K hK=>?_)
   refine rq0 Tryz.results99 ?_
   rw [hno]
theorem covB_succ {c : List Int} {row b : List Ar} {k : Nat} (h : k < row.length) : covB c (row.take (k + 1)) b = (covB c (row.take k) b && hasB c b row[k].1 (c.getD row[k].2.toNat 0)) := by
 unfold covB
 rw [List.take_succ_eq_append_getElem h, List.all_append]
 simp
theorem cov_fc (row b : List Ar) (c : List Int) (hn : row.length ≤ 140737488355328) (hbn : b.length ≤ 140737488355328) (hc : c.length ≤ 140737488355328) (hb : ∀ a ∈ row, 0 ≤ a.2 ∧ a.2 < (c.length : Int)) (hb2 : ∀ a ∈ b, 0 ≤ a.2 ∧ a.2 < (c.length : Int)) : FC Tryz.prog 80 [aArcs row, aArcs b, aInts c] [] (fun r o => o = [] ∧ r = .b (covB c row b)) := by
 refine fc_intro Tryz.func80 rfl (by rw [Tryz.ntmps80]; simp) ?_
 rw [Tryz.ntmps80]
 simp only [enum, aArcs, aInts]
 (refine wk0 ?_;(repeat clear hK K);repeat refine kq fun K hK=>?_)
 refine aw_loop (fun k : Nat => { tm := [(0, .a (.c (.t 2 (tArcs row)))), (1, .a (.c (.t 2 (tArcs b)))), (2, .a (.c (.t 1 (tInts c)))), (7, .i k)], hp := [], n := 31, pin := 0 }) (fun k => k ≤ row.length ∧ covB c (row.take k) b = true) (fun k => row.length - k) 0 ?_ ?_ ?_
 ·exact ⟨by omega, by simp [covB]⟩
 ·exact lmz
 ·rintro k ⟨hk, hno⟩ K hK
  by_cases hlt : k < row.length
  ·have d1 : decide ((k : Int) < (row.length : Int)) = true := by simpa using hlt
   have hmem := List.getElem_mem hlt
   have hba := hb _ hmem
   have g0 := tArcs_c0 hlt
   have g1 := tArcs_c1 hlt
   have hst := covB_succ (c := c) (b := b) hlt
   have hall : covB c (row.take (k + 1)) b = false → covB c row b = false := fun h => by
    unfold covB at h ⊢
    rw [List.all_eq_false] at h ⊢
    obtain ⟨y, h1, h2⟩ := h
    exact ⟨y, List.mem_of_mem_take h1, h2⟩
   generalize row[k] = a at *
   obtain ⟨e0, t⟩ := a
   simp only at g0 g1 hba hst
   obtain ⟨tn, rfl⟩ : ∃ tn : Nat, t = (tn : Int) := ⟨t.toNat, by omega⟩
   have htn : tn < c.length := by omega
   have gc := tInts_get (List.getElem?_eq_getElem htn)
   rw [hno, Bool.true_and, Int.toNat_natCast, List.getD_eq_getElem?_getD, List.getElem?_eq_getElem htn, Option.getD_some] at hst
   (refine wk1 (an @tArcs_len (an @half2 @d1)) ?_;(repeat clear hK K);repeat refine kq fun K hK=>?_)
   refine cxz ?_
   (refine wk0 ?_;(repeat clear hK K);repeat refine kq fun K hK=>?_)
   (refine aw_regionU 15 [(0, 0), (1, 0), (2, 0), (3, 0), (4, 0), (5, 0), (6, 1), (7, 0), (8, 0), (9, 0), (10, 0), (11, 0), (12, 1), (13, 0), (14, 1), (15, 2), (16, 0)] (by kernel_rfl) (by kernel_rfl) (by intro c st h; simp [ThenA, InBl, Ret] at h) ?_)
   (refine uk1 (an @tArcs_len (an @half2 (an @g0 (an @g1 (an @tInts_len @gc))))) ?_; repeat clear hK K)
   (refine uckz (hasA_fc b c e0 c[tn] hbn hc hb2) ?_; intro K1 hK1)
   rintro _ _ ⟨rfl, rfl⟩
   (refine bkz ?_; clear hK1 K1)
   cases hh : hasB c b e0 c[tn] with
   | true =>
    rw [hh] at hst
    (refine uk1 @Bool.not_true ?_; repeat clear hK K)
    refine cyz ?_
    (refine wk0 ?_;(repeat clear hK K);repeat refine kq fun K hK=>?_)
    refine rnz ?_
    refine hK _ (k + 1) ⟨by omega, hst⟩ (by omega) ?_
    exact lmz
   | false =>
    rw [hh] at hst
    (refine uk1 @Bool.not_false ?_; repeat clear hK K)
    refine cxz ?_
    (refine wk0 ?_;(repeat clear hK K);repeat refine kq fun K hK=>?_)
    refine rq0 Tryz.results80 ?_
    rw [hall hst]
  ·have d1 : decide ((k : Int) < (row.length : Int)) = false := by simpa using hlt
   rw [List.take_of_length_le (by omega)] at hno
   (refine wk1 (an @tArcs_len (an @half2 @d1)) ?_;(repeat clear hK K);repeat refine kq fun K hK=>?_)
   refine cyz ?_
   (refine ekz ?_;repeat clear hK K)
   (refine wk0 ?_;(repeat clear hK K);repeat refine kq fun K hK=>?_)
   refine rq0 Tryz.results80 ?_
   rw [hno]
def bsL {α : Type} [DecidableEq α] (g : Nat → α) (n s : Nat) : List Int := (nmG g s).1 ++ List.replicate (n - s) 0
theorem bsL_len {α : Type} [DecidableEq α] (g : Nat → α) {n s : Nat} (h : s ≤ n) : (bsL g n s).length = n := by simp [bsL, (nmG_ok g s).len]; omega
theorem bsL_lt {α : Type} [DecidableEq α] (g : Nat → α) {n s t : Nat} (h : t < s) (hs : s ≤ n) : (bsL g n s)[t]? = some ((nmG g s).1.getD t 0) := by
 have hl := (nmG_ok g s).len
 unfold bsL
 rw [List.getElem?_append_left (by omega), List.getD_eq_getElem?_getD, List.getElem?_eq_getElem (by omega)]; rfl
theorem bsL_set {α : Type} [DecidableEq α] (g : Nat → α) {n s : Nat} (h : s < n) {v : Int} {L : List Int} {m : Nat} (hn : nmG g (s + 1) = (L ++ [v], m)) (hL : L = (nmG g s).1) : (bsL g n s).set s v = bsL g n (s + 1) := by
 obtain ⟨q, hq⟩ : ∃ q, n - s = q + 1 := ⟨n - s - 1, by omega⟩
 have hq2 : n - (s + 1) = q := by omega
 have hl := (nmG_ok g s).len
 unfold bsL
 rw [hn, hq, hq2, List.replicate_succ, List.set_append_right _ _ (by omega), hl, Nat.sub_self, List.set_cons_zero, hL]
 simp
theorem bsL_end {α : Type} [DecidableEq α] (g : Nat → α) (n : Nat) : bsL g n n = (nmG g n).1 := by simp [bsL]
set_option maxHeartbeats 8000000 in
theorem split_fc (S : List (List Ar)) (c : List Int) (hn : S.length ≤ 1000000) (hr : ∀ r ∈ S, r.length ≤ 1000000) (hc : c.length = S.length) (hb : ∀ r ∈ S, ∀ a ∈ r, 0 ≤ a.2 ∧ a.2 < (S.length : Int)) : FC Tryz.prog 67 [.a (.c (.t 1 (tRows S))), aInts c] [] (fun r o => r = .a (.c (.s 0 S.length)) ∧ o = [.r ⟨3, 1, true, cInts (nxS S c)⟩]) := by
 refine fc_intro Tryz.func67 rfl (by rw [Tryz.ntmps67]; simp) ?_
 rw [Tryz.ntmps67]
 simp only [enum, aInts]
 have hnx : nxS S c = (nmG (ftS S c) S.length).1 := rfl
 have hgd : ∀ s, s < S.length → S.getD s [] = S[s]?.getD [] := fun s _ => List.getD_eq_getElem?_getD
 have hfeq : ∀ s t, s < S.length → t < S.length → (ftS S c t = ftS S c s ↔ c.getD t 0 = c.getD s 0 ∧ covB c (S.getD s []) (S.getD t []) = true ∧ covB c (S.getD t []) (S.getD s []) = true) := fun s t _ _ => by
  unfold ftS
  rw [Prod.mk.injEq, eq_comm (a := imR S c t), cov_iff]
 (refine wk1 @tRows_len ?_;(repeat clear hK K);repeat refine kq fun K hK=>?_)
 have e0 : List.replicate S.length (C.v (.int .i64 0)) = cInts (bsL (ftS S c) S.length 0) := by simp [cInts, bsL, nmG]
 rw [e0]
 refine aw_loop (fun s : Nat => { tm := [(0, .a (.c (.t 1 (tRows S)))), (1, .a (.c (.t 1 (tInts c)))), (5, .a (.c (.s 0 S.length))), (6, .i (nmG (ftS S c) s).2), (7, .i s)], hp := [.r ⟨3, 1, true, cInts (bsL (ftS S c) S.length s)⟩], n := 85, pin := 0 }) (fun s => s ≤ S.length) (fun s => S.length - s) 0 ?_ ?_ ?_
 ·omega
 ·simp only [nmG]
  exact lmz
 ·rintro s hs K hK
  by_cases hlt : s < S.length
  ·have d1 : decide ((s : Int) < (S.length : Int)) = true := by simpa using hlt
   have hgS := List.getElem?_eq_getElem hlt
   have hrl := hr _ (List.getElem_mem hlt)
   have hbs := hb _ (List.getElem_mem hlt)
   have hsc : s < c.length := by rw [hc]; exact hlt
   have hcs : c[s]? = some c[s] := List.getElem?_eq_getElem hsc
   have gcs := tInts_get hcs
   have hlb := bsL_len (ftS S c) hs
   have hbl := fun t (h : t < s) => bsL_lt (ftS S c) (n := S.length) h hs
   have hok := nmG_ok (ftS S c) s
   have hcnt := hok.cnt
   have hset := fun v L m => bsL_set (ftS S c) (n := S.length) hlt (v := v) (L := L) (m := m)
   have hS1 : S.getD s [] = S[s] := by rw [List.getD_eq_getElem?_getD, hgS]; rfl
   generalize hB : bsL (ftS S c) S.length s = B at *
   have hset2 : ∀ v w : Int, (B.set s v).set s w = B.set s w := fun v w => by simp
   (refine wk1 (an @tRows_len @d1) ?_;(repeat clear hK K);repeat refine kq fun K hK=>?_)
   refine cxz ?_
   (refine wks1 (an @cInts_len (an @hlb @cInts_set)) ?_;(repeat clear hK K);repeat refine kq fun K hK=>?_)
   refine aw_loop (fun x : Nat × Int => { tm := [(0, .a (.c (.t 1 (tRows S)))), (1, .a (.c (.t 1 (tInts c)))), (5, .a (.c (.s 0 S.length))), (6, .i (nmG (ftS S c) s).2), (7, .i s), (8, .i x.1)], hp := [.r ⟨3, 1, true, cInts (B.set s x.2)⟩], n := 85, pin := 0 }) (fun x => x.1 ≤ s ∧ ((x.2 = -1 ∧ ∀ u, u < x.1 → ftS S c u ≠ ftS S c s) ∨ ∃ t, x.1 = t + 1 ∧ ftS S c t = ftS S c s ∧ (∀ u, u < t → ftS S c u ≠ ftS S c s) ∧ x.2 = (nmG (ftS S c) s).1.getD t 0)) (fun x => s - x.1) (0, -1) ?_ ?_ ?_
   ·exact ⟨by simp, .inl ⟨rfl, fun u h => by simp at h⟩⟩
   ·exact lmz
   ·rintro ⟨t, v⟩ ⟨ht, hv⟩ K hK
    simp only at ht hv
    have gv : (cInts (B.set s v))[s]? = some (.v (.int .i64 v)) := cInts_get (List.getElem?_set_self (by omega))
    by_cases hgo : t < s ∧ v < 0
    ·obtain ⟨hts, hv0⟩ := hgo
     obtain ⟨hve, hno⟩ : v = -1 ∧ ∀ u, u < t → ftS S c u ≠ ftS S c s := by
      rcases hv with h | ⟨t', h1, _, _, h4⟩
      ·exact h
      ·have := hok.rng t' (by omega); omega
     have d2 : decide ((t : Int) < (s : Int)) = true := by simpa using hts
     have d3 : decide (v < 0) = true := by simpa using hv0
     have htl : t < S.length := by omega
     have hgT := List.getElem?_eq_getElem htl
     have hrt := hr _ (List.getElem_mem htl)
     have hbt := hb _ (List.getElem_mem htl)
     have gct := tInts_get (List.getElem?_eq_getElem (show t < c.length by omega))
     have hS2 : S.getD t [] = S[t] := by rw [List.getD_eq_getElem?_getD, hgT]; rfl
     have gvt : (cInts (B.set s v))[t]? = some (.v (.int .i64 ((nmG (ftS S c) s).1.getD t 0))) := cInts_get (by rw [List.getElem?_set_ne (by omega)]; exact hbl t hts)
     have hfe := hfeq s t hlt htl
     rw [hS1, hS2, List.getD_eq_getElem?_getD, List.getD_eq_getElem?_getD, List.getElem?_eq_getElem (show t < c.length by omega), hcs, Option.getD_some, Option.getD_some] at hfe
     have hgetS := tRows_get hgS
     have hgetT := tRows_get hgT
     generalize S[s] = rs at *
     generalize S[t] = rt at *
     (refine wk1 (an @d2 (an @cInts_len (an @List.length_set.{0} (an @hlb (an @gv @d3))))) ?_;(repeat clear hK K);repeat refine kq fun K hK=>?_)
     refine cxz ?_
     (refine wk0 ?_;(repeat clear hK K);repeat refine kq fun K hK=>?_)
     (refine aw_regionV [] [(0, 0, 0), (1, 0, 0), (2, 0, 0), (3, 1, 19), (4, 0, 0), (5, 0, 0), (6, 0, 0), (7, 1, 19), (8, 0, 0), (9, 0, 0), (10, 0, 0), (11, 0, 0), (12, 0, 0), (13, 1, 19), (14, 0, 0), (15, 0, 0), (16, 0, 0), (17, 1, 19), (18, 0, 0), (19, 2, 0), (20, 0, 0), (21, 0, 0), (22, 0, 0), (23, 0, 0), (24, 0, 0), (25, 1, 31), (26, 0, 0), (27, 0, 0), (28, 0, 0), (29, 1, 31), (30, 0, 0), (31, 2, 0), (32, 0, 0)] (by kernel_rfl) (by kernel_rfl) (by intro c st h; simp [ThenA, InBl, Ret] at h) ?_)
     by_cases q1 : c[t] = c[s]
     ·have d4 : (c[t] == c[s]) = true := by simpa using q1
      (refine vk1 (an @tInts_len (an @hc (an @gct (an @gcs (an @d4 (an @tRows_len (an @hgetS @hgetT))))))) ?_; repeat clear hK K)
      (refine v_2g rfl rfl rfl (by simp only [go_sem] <;> rfl) ?_; intro K1 hK1; refine stpX_mono ?_; refine xv [] (cov_fc rs rt c (by omega) (by omega) (by omega) (by rw [hc]; exact hbs) (by rw [hc]; exact hbt)) ?_ ?_)
      ·rintro _ _ ⟨rfl, rfl⟩ i o hi hl; simp at hl
      rintro _ _ ⟨rfl, rfl⟩
      (refine bkz ?_; clear hK1 K1)
      cases q2 : covB c rs rt with
      | true =>
       (refine vk1 (an @tInts_len (an @hc (an @gct (an @gcs (an @d4 (an @tRows_len (an @hgetS @hgetT))))))) ?_; repeat clear hK K)
       (refine v_2g rfl rfl rfl (by simp only [go_sem] <;> rfl) ?_; intro K1 hK1; refine stpX_mono ?_; refine xv [] (cov_fc rt rs c (by omega) (by omega) (by omega) (by rw [hc]; exact hbt) (by rw [hc]; exact hbs)) ?_ ?_)
       ·rintro _ _ ⟨rfl, rfl⟩ i o hi hl; simp at hl
       rintro _ _ ⟨rfl, rfl⟩
       (refine bkz ?_; clear hK1 K1)
       cases q3 : covB c rt rs with
       | true =>
        have hyes := hfe.2 ⟨q1, q2, q3⟩
        (refine vk0 ?_; repeat clear hK K)
        refine cxz ?_
        (refine wks1 (an @cInts_len (an @List.length_set.{0} (an @hlb (an @gvt (an @cInts_set @List.set_set.{0}))))) ?_;(repeat clear hK K);repeat refine kq fun K hK=>?_)
        refine rnz ?_
        refine hK _ (t + 1, (nmG (ftS S c) s).1.getD t 0) ⟨by simp only; omega, .inr ⟨t, rfl, hyes, hno, rfl⟩⟩ (by simp only; omega) ?_
        exact lmz
       | false =>
        (refine vk0 ?_; repeat clear hK K)
        refine cyz ?_
        (refine wk0 ?_;(repeat clear hK K);repeat refine kq fun K hK=>?_)
        refine rnz ?_
        refine hK _ (t + 1, v) ⟨by simp only; omega, .inl ⟨hve, fun u hu e => ?_⟩⟩ (by simp only; omega) ?_
        ·simp only at hu
         by_cases eu : u = t
         ·subst eu
          have h3 := hfe.1 e
          have h4 := q3
          simp [h3] at h4
         ·exact hno u (by omega) e
        ·exact lmz
      | false =>
       (refine vk0 ?_; repeat clear hK K)
       refine cyz ?_
       (refine wk0 ?_;(repeat clear hK K);repeat refine kq fun K hK=>?_)
       refine rnz ?_
       refine hK _ (t + 1, v) ⟨by simp only; omega, .inl ⟨hve, fun u hu e => ?_⟩⟩ (by simp only; omega) ?_
       ·simp only at hu
        by_cases eu : u = t
        ·subst eu
         have h3 := hfe.1 e
         have h4 := q2
         simp [h3] at h4
        ·exact hno u (by omega) e
       ·exact lmz
     ·have d4 : (c[t] == c[s]) = false := by simpa using q1
      (refine vk1 (an @tInts_len (an @hc (an @gct (an @gcs @d4)))) ?_; repeat clear hK K)
      refine cyz ?_
      (refine wk0 ?_;(repeat clear hK K);repeat refine kq fun K hK=>?_)
      refine rnz ?_
      refine hK _ (t + 1, v) ⟨by simp only; omega, .inl ⟨hve, fun u hu e => ?_⟩⟩ (by simp only; omega) ?_
      ·simp only at hu
       by_cases eu : u = t
       ·subst eu
        have h3 := hfe.1 e
        have h4 := q1
        simp [h3] at h4
       ·exact hno u (by omega) e
      ·exact lmz
    ·have hcond : (decide ((t : Int) < (s : Int)) = true ∧ decide (v < 0) = false) ∨ decide ((t : Int) < (s : Int)) = false := by
      by_cases hts : t < s
      ·left; exact ⟨by simpa using hts, by simp; exact Int.not_lt.1 fun h => hgo ⟨hts, h⟩⟩
      ·right; simpa using hts
     rcases hcond with ⟨d2, d3⟩ | d2
     ·(refine wk1 (an @d2 (an @cInts_len (an @List.length_set.{0} (an @hlb (an @gv @d3))))) ?_;(repeat clear hK K);repeat refine kq fun K hK=>?_)
      refine cyz ?_
      (refine ekz ?_;repeat clear hK K)
      rcases hv with ⟨hve, hno⟩ | ⟨t', h1, h2, h3, h4⟩
      ·have hts : t = s := by
        rcases Nat.lt_or_ge t s with h | h
        ·exact absurd ⟨h, by omega⟩ hgo
        ·omega
       rw [hts] at hno
       have hnm := nmG_none (nm_find_none hno)
       have hst := hset _ _ _ hnm rfl
       have d4 : decide (v < 0) = true := by simp; omega
       (refine wk1 (an @cInts_len (an @List.length_set.{0} (an @hlb (an @gv @d4)))) ?_;(repeat clear hK K);repeat refine kq fun K hK=>?_)
       refine cxz ?_
       (refine wks1 (an @cInts_len (an @List.length_set.{0} (an @hlb (an @cInts_set (an @List.set_set.{0} @hst))))) ?_;(repeat clear hK K);repeat refine kq fun K hK=>?_)
       refine rnz ?_
       refine hK _ (s + 1) (by omega) (by omega) ?_
       rw [hnm]
       exact lmz
      ·have hnm := nmG_some (nm_find_some (f := ftS S c) (show t' < s by omega) h2 h3)
       have hst := hset _ _ _ hnm rfl
       rw [← h4] at hst
       have h0 := hok.rng t' (by omega)
       have d4 : decide (v < 0) = false := by simp; omega
       rw [hst]
       rw [hst] at gv
       have hlb2 := bsL_len (ftS S c) (n := S.length) (s := s + 1) (by omega)
       (refine wk1 (an @cInts_len (an @hlb2 (an @gv @d4))) ?_;(repeat clear hK K);repeat refine kq fun K hK=>?_)
       refine cyz ?_
       (refine wk0 ?_;(repeat clear hK K);repeat refine kq fun K hK=>?_)
       refine rnz ?_
       refine hK _ (s + 1) (by omega) (by omega) ?_
       rw [hnm]
       exact lmz
     ·(refine wk1 @d2 ?_;(repeat clear hK K);repeat refine kq fun K hK=>?_)
      refine cyz ?_
      (refine ekz ?_;repeat clear hK K)
      rcases hv with ⟨hve, hno⟩ | ⟨t', h1, h2, h3, h4⟩
      ·have hts : t = s := by
        rcases Nat.lt_or_ge t s with h | h
        ·exact absurd ⟨h, by omega⟩ hgo
        ·omega
       rw [hts] at hno
       have hnm := nmG_none (nm_find_none hno)
       have hst := hset _ _ _ hnm rfl
       have d4 : decide (v < 0) = true := by simp; omega
       (refine wk1 (an @cInts_len (an @List.length_set.{0} (an @hlb (an @gv @d4)))) ?_;(repeat clear hK K);repeat refine kq fun K hK=>?_)
       refine cxz ?_
       (refine wks1 (an @cInts_len (an @List.length_set.{0} (an @hlb (an @cInts_set (an @List.set_set.{0} @hst))))) ?_;(repeat clear hK K);repeat refine kq fun K hK=>?_)
       refine rnz ?_
       refine hK _ (s + 1) (by omega) (by omega) ?_
       rw [hnm]
       exact lmz
      ·have hnm := nmG_some (nm_find_some (f := ftS S c) (show t' < s by omega) h2 h3)
       have hst := hset _ _ _ hnm rfl
       rw [← h4] at hst
       have h0 := hok.rng t' (by omega)
       have d4 : decide (v < 0) = false := by simp; omega
       rw [hst]
       rw [hst] at gv
       have hlb2 := bsL_len (ftS S c) (n := S.length) (s := s + 1) (by omega)
       (refine wk1 (an @cInts_len (an @hlb2 (an @gv @d4))) ?_;(repeat clear hK K);repeat refine kq fun K hK=>?_)
       refine cyz ?_
       (refine wk0 ?_;(repeat clear hK K);repeat refine kq fun K hK=>?_)
       refine rnz ?_
       refine hK _ (s + 1) (by omega) (by omega) ?_
       rw [hnm]
       exact lmz
  ·have d1 : decide ((s : Int) < (S.length : Int)) = false := by simpa using hlt
   have hse : s = S.length := by omega
   rw [hse] at d1
   rw [hse, bsL_end, ← hnx]
   (refine wk1 (an @tRows_len @d1) ?_;(repeat clear hK K);repeat refine kq fun K hK=>?_)
   refine cyz ?_
   (refine ekz ?_;repeat clear hK K)
   (refine wk0 ?_;(repeat clear hK K);repeat refine kq fun K hK=>?_)
   exact rpc1 [0] Tryz.results67 @cInts_ren
def rL (n : Nat) (B : List Bool) : List Int := ((List.range n).filter (seenB B)).map Int.ofNat
theorem mem_rL {n : Nat} {B : List Bool} {u : Nat} : (u : Int) ∈ rL n B ↔ u < n ∧ seenB B u = true := by
 unfold rL
 rw [List.mem_map]
 constructor
 ·rintro ⟨v, hv, e⟩
  have : v = u := by have e2 : (v : Int) = (u : Int) := e; omega
  subst this
  simpa using hv
 ·rintro ⟨h1, h2⟩
  exact ⟨u, by simp [h1, h2], rfl⟩
theorem rL_len (n : Nat) (B : List Bool) : (rL n B).length ≤ n := by
 unfold rL
 rw [List.length_map]
 have := List.length_filter_le (seenB B) (List.range n)
 rwa [List.length_range] at this
def ReB (R : List (List Ar)) (F : List Nat) (B : List Bool) : Prop := B.length = R.length ∧ ∀ u, seenB B u = true ↔ ∃ v ∈ F, Rc (Adj true R) v u
theorem reT_fc (R : List (List Ar)) (F : List Nat) (hv : valB R = true) (hF : ∀ v ∈ F, v < R.length) (hFl : F.length ≤ 1000000) (hn : R.length ≤ 1000000) (hr : ∀ r ∈ R, r.length ≤ 1000000) : FC Tryz.prog 65 [aLts R, .a (.c (.t 1 (tInts (F.map Int.ofNat)))), .b true] [] (fun r o => ∃ B, ReB R F B ∧ o = [] ∧ r = .a (.c (.t 1 (tInts (rL R.length B))))) := by
 have h := (reachF_fc R F true hv hF hFl hn hr).mono (R' := fun r o => ∃ B, ReB R F B ∧ r = .a (.c (.s 0 (rL R.length B).length)) ∧ o = [.r ⟨3, 1, true, cInts (rL R.length B)⟩]) fun r o ⟨B, h1, h2, L, hL, h3, h4⟩ => ⟨B, ⟨h1, fun u => by rw [h2 u, adj_eq true hv]⟩, by rw [h4, hL]; rfl, by rw [h3, hL]; rfl⟩
 exact h.frzP (fun B => fz_c _) (by omega) (fun B _ => by rw [tInts_len, Nat.mul_one])
def Cy (R : List (List Ar)) (s : Nat) : Prop := ∃ w, w ∈ Adj true R s ∧ Rc (Adj true R) w s
set_option maxHeartbeats 2000000 in
theorem onc_fc (R : List (List Ar)) (s : Nat) (hv : valB R = true) (hs : s < R.length) (hn : R.length ≤ 1000000) (hr : ∀ r ∈ R, r.length ≤ 1000000) : FC Tryz.prog 64 [aLts R, .i s] [] (fun r o => ∃ b : Bool, (b = true ↔ Cy R s) ∧ o = [] ∧ r = .b b) := by
 refine fc_intro Tryz.func64 rfl (by rw [Tryz.ntmps64]; simp) ?_
 rw [Tryz.ntmps64]
 simp only [enum, aLts]
 have hlo : looB R = true := decide_eq_true (of_decide_eq_true hv).1
 have hg := List.getElem?_eq_getElem hs
 have hrl := hr _ (List.getElem_mem hs)
 have hbs := (of_decide_eq_true hlo).2.2.2 _ (List.getElem_mem hs)
 have hcy : Cy R s ↔ ∃ a ∈ R[s], a.1 = 0 ∧ Rc (Adj true R) a.2.toNat s := by
  unfold Cy
  rw [← adj_eq true hv]
  unfold AdjF tauF
  rw [List.getD_eq_getElem?_getD, hg, Option.getD_some]
  simp only [List.mem_map, List.mem_filter, Bool.not_true, Bool.false_or, beq_iff_eq]
  constructor
  ·rintro ⟨w, ⟨a, ⟨h1, h2⟩, rfl⟩, h3⟩
   exact ⟨a, h1, h2, h3⟩
  ·rintro ⟨a, h1, h2, h3⟩
   exact ⟨_, ⟨a, ⟨h1, h2⟩, rfl⟩, h3⟩
 generalize R[s] = row at *
 (refine wk0 ?_;(repeat clear hK K);repeat refine kq fun K hK=>?_)
 refine aw_loop (fun i : Nat => { tm := [(1, .i s), (2, .a (.c (.p 0 0))), (5, .i i)], hp := [.r ⟨25, 1, false, [.t 1 (tRows R)]⟩], n := 37, pin := 0 }) (fun i => i ≤ row.length ∧ ∀ a ∈ row.take i, ¬ (a.1 = 0 ∧ Rc (Adj true R) a.2.toNat s)) (fun i => row.length - i) 0 ?_ ?_ ?_
 ·exact ⟨by omega, by simp⟩
 ·exact lmz
 ·rintro i ⟨hi, hno⟩ K hK
  by_cases hlt : i < row.length
  ·have d1 : decide ((i : Int) < (row.length : Int)) = true := by simpa using hlt
   have hat := tArcs_at hlt
   have hmem := List.getElem_mem hlt
   have hb := hbs _ hmem
   have hno2 : ¬ (row[i].1 = 0 ∧ Rc (Adj true R) row[i].2.toNat s) → ∀ a ∈ row.take (i + 1), ¬ (a.1 = 0 ∧ Rc (Adj true R) a.2.toNat s) := fun h a ha => by
    rw [List.take_succ_eq_append_getElem hlt] at ha
    rcases List.mem_append.1 ha with h1 | h1
    ·exact hno a h1
    ·simp at h1; subst h1; exact h
   generalize row[i] = a at *
   obtain ⟨e, t⟩ := a
   simp only at hat hb hno2
   obtain ⟨_, _, ht0, ht1⟩ := hb
   obtain ⟨tn, rfl⟩ : ∃ tn : Nat, t = (tn : Int) := ⟨t.toNat, by omega⟩
   have htn : tn < R.length := by omega
   rw [Int.toNat_natCast] at hno2
   by_cases he : e = 0
   ·have d2 : (e == 0) = true := by simpa using he
    (refine wk1 (an @d1 (an @tRows_len (an (tRows_get hg) (an @tArcs_len @half2)))) ?_;(repeat clear hK K);repeat refine kq fun K hK=>?_)
    refine cxz ?_
    (refine wks1 (an @tRows_len (an (tRows_get hg) (an @hat (an @tArcs_len (an @half2 @d2))))) ?_;(repeat clear hK K);repeat refine kq fun K hK=>?_)
    (refine lst_le (le_frz (r := ⟨3, 1, true, cInts [(tn : Int)]⟩) 2 (tInts [(tn : Int)]) rfl (fz_c _) (show 0 < (1 : Nat) by omega)) ?_; simp only [ST.frz, A0.frz, AV.frz, C.frz, Nat.le_refl, List.set_cons_zero, List.set_cons_succ, go_sem, tInts_one])
    (refine lst_goU rfl rfl (by simp only [go_sem] <;> rfl) ?_; intro K1 hK1; refine (stp_call0 (ids := []) (reT_fc R [tn] hv (by simpa using htn) (by simp) hn hr) rfl rfl (by simp only [go_sem]) (by kernel_rfl) (by (simp only [List.append_nil, go_sem]) <;> rfl) ?_).stp)
    rintro _ _ ⟨B, hB, rfl, rfl⟩
    (refine bkz ?_; clear hK1 K1)
    (refine wk0 ?_;(repeat clear hK K);repeat refine kq fun K hK=>?_)
    (refine lst_goU rfl rfl (by simp only [go_sem] <;> rfl) ?_; intro K1 hK1; refine (stp_call0 (ids := []) (hasT_fc (rL R.length B) s (by have := rL_len R.length B; omega)) rfl rfl (by simp only [go_sem]) (by kernel_rfl) (by (simp only [List.append_nil, go_sem]) <;> rfl) ?_).stp)
    rintro _ _ ⟨rfl, rfl⟩
    (refine bkz ?_; clear hK1 K1)
    have hin : (s : Int) ∈ rL R.length B ↔ Rc (Adj true R) tn s := by rw [mem_rL, hB.2]; simp [hs]
    by_cases hh : Rc (Adj true R) tn s
    ·have d3 : decide ((s : Int) ∈ rL R.length B) = true := by simpa using hin.2 hh
     (refine wk1 @d3 ?_;(repeat clear hK K);repeat refine kq fun K hK=>?_)
     refine cxz ?_
     (refine wk0 ?_;(repeat clear hK K);repeat refine kq fun K hK=>?_)
     refine rp0 [] Tryz.results64 ?_
     exact ⟨true, by simp only [true_iff]; exact hcy.2 ⟨_, hmem, he, by rw [Int.toNat_natCast]; exact hh⟩, rfl⟩
    ·have d3 : decide ((s : Int) ∈ rL R.length B) = false := by simpa using fun h => hh (hin.1 h)
     (refine wk1 @d3 ?_;(repeat clear hK K);repeat refine kq fun K hK=>?_)
     refine cyz ?_
     (refine wk0 ?_;(repeat clear hK K);repeat refine kq fun K hK=>?_)
     refine rnz ?_
     refine hK _ (i + 1) ⟨by omega, hno2 fun h => hh h.2⟩ (by omega) ?_
     refine Le.trans (le_pick [0] rfl rfl) ?_
     (try simp only [List.set_nil, List.take_nil, List.take_zero, List.map_append, go_sem])
     exact lmz
   ·have d2 : (e == 0) = false := by simpa using he
    (refine wk1 (an @d1 (an @tRows_len (an (tRows_get hg) (an @tArcs_len @half2)))) ?_;(repeat clear hK K);repeat refine kq fun K hK=>?_)
    refine cxz ?_
    (refine wks1 (an @tRows_len (an (tRows_get hg) (an @hat (an @tArcs_len (an @half2 @d2))))) ?_;(repeat clear hK K);repeat refine kq fun K hK=>?_)
    refine cyz ?_
    (refine wk0 ?_;(repeat clear hK K);repeat refine kq fun K hK=>?_)
    refine rnz ?_
    refine hK _ (i + 1) ⟨by omega, hno2 fun h => he h.1⟩ (by omega) ?_
    refine Le.trans (le_pick [0] rfl rfl) ?_
    (try simp only [List.set_nil, List.take_nil, List.take_zero, List.map_append, go_sem])
    exact lmz
  ·have d1 : decide ((i : Int) < (row.length : Int)) = false := by simpa using hlt
   (refine wk1 (an @d1 (an @tRows_len (an (tRows_get hg) (an @tArcs_len @half2)))) ?_;(repeat clear hK K);repeat refine kq fun K hK=>?_)
   refine cyz ?_
   (refine ekz ?_;repeat clear hK K)
   (refine wk0 ?_;(repeat clear hK K);repeat refine kq fun K hK=>?_)
   refine rp0 [] Tryz.results64 ?_
   refine ⟨false, by simp only [Bool.false_eq_true, false_iff]; intro h; obtain ⟨a, h1, h2⟩ := hcy.1 h; exact hno a (by rw [List.take_of_length_le (by omega)]; exact h1) h2, rfl⟩
def CyL (R : List (List Ar)) (k : Nat) (Ls : List Nat) : Prop := Ls.length ≤ k ∧ ∀ g, g ∈ Ls ↔ g < k ∧ Cy R g
theorem CyL.yes {R : List (List Ar)} {k : Nat} {Ls : List Nat} (h : CyL R k Ls) (hc : Cy R k) : CyL R (k + 1) (Ls ++ [k]) := by
 refine ⟨by simp only [List.length_append, List.length_singleton]; have := h.1; omega, fun g => ?_⟩
 rw [List.mem_append, h.2, List.mem_singleton]
 constructor
 ·rintro (⟨h1, h2⟩ | rfl)
  ·exact ⟨by omega, h2⟩
  ·exact ⟨by omega, hc⟩
 ·rintro ⟨h1, h2⟩
  by_cases e : g = k
  ·exact .inr e
  ·exact .inl ⟨by omega, h2⟩
theorem CyL.no {R : List (List Ar)} {k : Nat} {Ls : List Nat} (h : CyL R k Ls) (hc : ¬ Cy R k) : CyL R (k + 1) Ls := by
 refine ⟨by have := h.1; omega, fun g => ?_⟩
 rw [h.2]
 constructor
 ·rintro ⟨h1, h2⟩; exact ⟨by omega, h2⟩
 ·rintro ⟨h1, h2⟩
  by_cases e : g = k
  ·subst e; exact absurd h2 hc
  ·exact ⟨by omega, h2⟩
theorem Dv_iff {R : List (List Ar)} (hlo : looB R = true) {Ls : List Nat} (h : CyL R R.length Ls) {s : Nat} (hs : s < R.length) : Dv R s ↔ ∃ g ∈ Ls, Rc (Adj true R) s g := by
 constructor
 ·rintro ⟨g, h1, h2⟩
  exact ⟨g, (h.2 g).2 ⟨h1.lt hs (adj_lt true hlo), h2⟩, h1⟩
 ·rintro ⟨g, h1, h2⟩
  exact ⟨g, h2, ((h.2 g).1 h1).2⟩
set_option maxHeartbeats 4000000 in
theorem rdvg_fc (R : List (List Ar)) (hv : valB R = true) (hn : R.length ≤ 1000000) (hr : ∀ r ∈ R, r.length ≤ 1000000) : FC Tryz.prog 46 [aLts R] [] (fun r o => ∃ B, DvL R B ∧ r = .a (.c (.s 0 R.length)) ∧ o = [.r ⟨4, 1, true, cBs B⟩]) := by
 refine fc_intro Tryz.func46 rfl (by rw [Tryz.ntmps46]; simp) ?_
 rw [Tryz.ntmps46]
 simp only [enum, aLts]
 have hlo : looB R = true := decide_eq_true (of_decide_eq_true hv).1
 (refine wk0 ?_;(repeat clear hK K);repeat refine kq fun K hK=>?_)
 (refine ckz (validR_fc R (by omega) (fun r h => by have := hr r h; omega)) ?_; intro K1 hK1)
 rintro _ _ ⟨rfl, rfl⟩
 (refine bkz ?_; clear hK1 K1)
 (refine wk1 (an @hv @Bool.not_true) ?_;(repeat clear hK K);repeat refine kq fun K hK=>?_)
 refine cyz ?_
 (refine wk0 ?_;(repeat clear hK K);repeat refine kq fun K hK=>?_)
 refine aw_le (le_nil 3 3 1 ?_) ?_
 ·simp only [go_sem]
 simp only [List.cons_append, List.nil_append, List.length_cons, List.length_nil]
 refine aw_loop (fun x : Nat × List Nat => { tm := [(1, .a (.c (.p 0 0))), (3, .a (.c (.s 1 x.2.length))), (4, .i x.1)], hp := [.r ⟨25, 1, false, [.t 1 (tRows R)]⟩, .r ⟨3, 1, true, cInts (x.2.map Int.ofNat)⟩], n := 68, pin := 0 }) (fun x => x.1 ≤ R.length ∧ CyL R x.1 x.2) (fun x => R.length - x.1) (0, []) ?_ ?_ ?_
 ·exact ⟨by simp, by simp, fun g => by simp⟩
 ·simp only [List.map_nil, List.length_nil, cInts]
  exact lmz
 ·rintro ⟨s, Ls⟩ ⟨hs, hLs⟩ K hK
  simp only at hs hLs
  have hll := hLs.1
  by_cases hlt : s < R.length
  ·have d1 : decide ((s : Int) < (R.length : Int)) = true := by simpa using hlt
   (refine wk1 (an @tRows_len @d1) ?_;(repeat clear hK K);repeat refine kq fun K hK=>?_)
   refine cxz ?_
   (refine wk0 ?_;(repeat clear hK K);repeat refine kq fun K hK=>?_)
   (refine ckz (onc_fc R s hv hlt hn hr) ?_; intro K1 hK1)
   rintro _ _ ⟨b, hb, rfl, rfl⟩
   (refine bkz ?_; clear hK1 K1)
   (refine wk0 ?_;(repeat clear hK K);repeat refine kq fun K hK=>?_)
   cases b with
   | true =>
    refine cxz ?_
    (refine wk1 (an @List.length_map.{0, 0} (an @List.set_cons_zero.{0} (an @List.set_cons_succ.{0} (an @List.take_succ_cons.{0} (an @List.take_zero.{0} (an @List.drop_zero.{0} (an @List.length_take.{0} (an @List.length_drop.{0} (an @List.length_append.{0} (an @tInts_len (an @tInts_take (an @tInts_drop (an @tInts_c (an @cInts_len (an @cInts_one (an @cInts_snoc (an @cInts_app (an @cInts_take @cInts_drop)))))))))))))))))) ?_;(repeat clear hK K);repeat refine kq fun K hK=>?_)
    refine rnz ?_
    refine hK _ (s + 1, Ls ++ [s]) ⟨by simp only; omega, hLs.yes (hb.1 rfl)⟩ (by simp only; omega) ?_
    refine Le.trans (le_pick [0, 3] rfl rfl) ?_
    (try simp only [List.set_nil, List.take_nil, List.take_zero, List.map_append, go_sem])
    (try simp only [cInts_ren])
    have htk : (Ls.map Int.ofNat).take Ls.length = Ls.map Int.ofNat := List.take_of_length_le (by simp)
    simp only [htk, List.map_append, List.map_cons, List.map_nil, List.length_append, List.length_singleton]
    exact lmz
   | false =>
    refine cyz ?_
    (refine wk0 ?_;(repeat clear hK K);repeat refine kq fun K hK=>?_)
    refine rnz ?_
    refine hK _ (s + 1, Ls) ⟨by simp only; omega, hLs.no fun h => by have := hb.2 h; cases this⟩ (by simp only; omega) ?_
    exact lmz
  ·have d1 : decide ((s : Int) < (R.length : Int)) = false := by simpa using hlt
   have hse : s = R.length := by omega
   rw [hse] at hLs
   (refine wk1 (an @tRows_len @d1) ?_;(repeat clear hK K);repeat refine kq fun K hK=>?_)
   refine cyz ?_
   (refine ekz ?_;repeat clear hK K)
   have htk : (tInts (Ls.map Int.ofNat)).take Ls.length = tInts (Ls.map Int.ofNat) := List.take_of_length_le (by rw [tInts_len]; simp)
   (refine aw_le (le_frz (r := ⟨3, 1, true, cInts (Ls.map Int.ofNat)⟩) 1 (tInts (Ls.map Int.ofNat)) rfl (fz_c _) (show 0 < (1 : Nat) by omega)) ?_; simp only [ST.frz, A0.frz, AV.frz, C.frz, Nat.le_refl, List.set_cons_zero, List.set_cons_succ, go_sem, htk, tInts_len, List.length_map])
   (refine wk1 @tRows_len ?_;(repeat clear hK K);repeat refine kq fun K hK=>?_)
   refine aw_le (le_pick [0, 2] rfl rfl) ?_
   (try simp only [List.set_nil, List.take_nil, List.take_zero, List.map_append, go_sem])
   have e0 : List.replicate R.length (C.v (.bool false)) = cBs (List.replicate R.length false) := by simp [cBs]
   rw [e0]
   (try simp only [cBs_ren])
   refine aw_loop (fun x : Nat × List Bool => { tm := [(1, .a (.c (.p 0 0))), (3, .a (.c (.t 1 (tInts (Ls.map Int.ofNat))))), (5, .a (.c (.s 1 R.length))), (6, .i x.1)], hp := [.r ⟨25, 1, false, [.t 1 (tRows R)]⟩, .r ⟨4, 1, true, cBs x.2⟩], n := 68, pin := 0 }) (fun x => x.1 ≤ R.length ∧ x.2.length = R.length ∧ (∀ u, u < x.1 → (x.2.getD u false = true ↔ ∃ g ∈ Ls, Rc (Adj true R) u g)) ∧ ∀ u, x.1 ≤ u → x.2.getD u false = false) (fun x => R.length - x.1) (0, List.replicate R.length false) ?_ ?_ ?_
   ·refine ⟨by simp, by simp, fun u h => by simp at h, fun u _ => ?_⟩
    rw [List.getD_eq_getElem?_getD, List.getElem?_replicate]; split <;> rfl
   ·exact lmz
   ·clear hs hlt d1 hse hll
    rintro ⟨s, B⟩ ⟨hs, hBl, hB1, hB2⟩ K hK
    simp only at hs hBl hB1 hB2
    have hll := hLs.1
    by_cases hgo : s < R.length ∧ 0 < Ls.length
    ·obtain ⟨hlt, hL0⟩ := hgo
     have d1 : decide ((s : Int) < (R.length : Int)) = true := by simpa using hlt
     have d2 : decide ((Ls.length : Int) > 0) = true := decide_eq_true (by omega)
     (refine wk1 (an @tRows_len (an @d1 (an @tInts_len (an @List.length_map.{0, 0} @d2)))) ?_;(repeat clear hK K);repeat refine kq fun K hK=>?_)
     refine cxz ?_
     (refine wk0 ?_;(repeat clear hK K);repeat refine kq fun K hK=>?_)
     (refine lst_le (le_frz (r := ⟨3, 1, true, cInts [(s : Int)]⟩) 2 (tInts [(s : Int)]) rfl (fz_c _) (show 0 < (1 : Nat) by omega)) ?_; simp only [ST.frz, A0.frz, AV.frz, C.frz, Nat.le_refl, List.set_cons_zero, List.set_cons_succ, go_sem, tInts_one])
     (refine ckz (reT_fc R [s] hv (by simpa using hlt) (by simp) hn hr) ?_; intro K1 hK1)
     rintro _ _ ⟨B0, hB0, rfl, rfl⟩
     (refine bkz ?_; clear hK1 K1)
     have hBk : ∀ u : Nat, (u : Int) ∈ rL R.length B0 ↔ u < R.length ∧ Rc (Adj true R) s u := fun u => by rw [mem_rL, hB0.2]; simp
     have hrl := rL_len R.length B0
     generalize rL R.length B0 = L0 at *
     (refine wk0 ?_;(repeat clear hK K);repeat refine kq fun K hK=>?_)
     refine aw_le (le_pick [0, 1] rfl rfl) ?_
     (try simp only [List.set_nil, List.take_nil, List.take_zero, List.map_append, go_sem])
     (try simp only [cBs_ren])
     refine aw_loop (fun x : Nat × Bool => { tm := [(1, .a (.c (.p 0 0))), (3, .a (.c (.t 1 (tInts (Ls.map Int.ofNat))))), (5, .a (.c (.s 1 R.length))), (6, .i s), (7, .a (.c (.t 1 (tInts L0)))), (8, .i x.1)], hp := [.r ⟨25, 1, false, [.t 1 (tRows R)]⟩, .r ⟨4, 1, true, cBs (B.set s x.2)⟩], n := 68, pin := 0 }) (fun x => x.1 ≤ Ls.length ∧ (x.2 = true ↔ ∃ g ∈ Ls.take x.1, Rc (Adj true R) s g)) (fun x => Ls.length - x.1) (0, false) ?_ ?_ ?_
     ·exact ⟨by simp, by simp⟩
     ·have e1 : B.set s false = B := by
       have h := hB2 s (Nat.le_refl _)
       rw [List.getD_eq_getElem?_getD, List.getElem?_eq_getElem (by omega), Option.getD_some] at h
       have e : B.set s B[s] = B := List.set_getElem_self _
       rwa [h] at e
      simp only [e1]
      exact lmz
     ·rintro ⟨i, b⟩ ⟨hi, hb⟩ K hK
      simp only at hi hb
      by_cases hli : i < Ls.length
      ·have d3 : decide ((i : Int) < (Ls.length : Int)) = true := by simpa using hli
       have gl : (tInts (Ls.map Int.ofNat))[i]? = some (.v (.int .i64 ((Ls[i] : Nat) : Int))) := tInts_get (by rw [List.getElem?_map, List.getElem?_eq_getElem hli]; rfl)
       have gb : (cBs (B.set s b))[s]? = some (.v (.bool b)) := cBs_get (List.getElem?_set_self (by omega))
       have hgm := ((hLs.2 Ls[i]).1 (List.getElem_mem hli)).1
       have hstep : (b || decide ((Ls[i] : Int) ∈ L0)) = true ↔ ∃ g ∈ Ls.take (i + 1), Rc (Adj true R) s g := by
        rw [List.take_succ_eq_append_getElem hli, Bool.or_eq_true, hb, decide_eq_true_iff, hBk]
        simp only [List.mem_append, List.mem_singleton]
        constructor
        ·rintro (⟨g, h1, h2⟩ | ⟨h1, h2⟩)
         ·exact ⟨g, .inl h1, h2⟩
         ·exact ⟨_, .inr rfl, h2⟩
        ·rintro ⟨g, h1 | h1, h2⟩
         ·exact .inl ⟨g, h1, h2⟩
         ·subst h1; exact .inr ⟨hgm, h2⟩
       generalize Ls[i] = g at *
       cases b with
       | true =>
        (refine wk1 (an @tInts_len (an @List.length_map.{0, 0} @d3)) ?_;(repeat clear hK K);repeat refine kq fun K hK=>?_)
        refine cxz ?_
        (refine wks1 (an @cBs_len (an @List.length_set.{0} (an @hBl (an @gb (an @cBs_set @List.set_set.{0}))))) ?_;(repeat clear hK K);repeat refine kq fun K hK=>?_)
        refine rnz ?_
        refine hK _ (i + 1, true) ⟨by simp only; omega, by simp only; rw [← hstep]; simp⟩ (by simp only; omega) ?_
        exact lmz
       | false =>
        rw [Bool.false_or] at hstep
        (refine wk1 (an @tInts_len (an @List.length_map.{0, 0} @d3)) ?_;(repeat clear hK K);repeat refine kq fun K hK=>?_)
        refine cxz ?_
        (refine wk1 (an @cBs_len (an @List.length_set.{0} (an @hBl (an @gb (an @gl (an @tInts_len @List.length_map.{0, 0})))))) ?_;(repeat clear hK K);repeat refine kq fun K hK=>?_)
        (refine lst_goU rfl rfl (by simp only [go_sem] <;> rfl) ?_; intro K1 hK1; refine (stp_call0 (ids := []) (hasT_fc L0 g (by omega)) rfl rfl (by simp only [go_sem]) (by kernel_rfl) (by (simp only [List.append_nil, go_sem]) <;> rfl) ?_).stp)
        rintro _ _ ⟨rfl, rfl⟩
        (refine bkz ?_; clear hK1 K1)
        (refine wks1 (an @cBs_len (an @List.length_set.{0} (an @hBl (an @gb (an @cBs_set @List.set_set.{0}))))) ?_;(repeat clear hK K);repeat refine kq fun K hK=>?_)
        refine rnz ?_
        refine hK _ (i + 1, decide ((g : Int) ∈ L0)) ⟨by simp only; omega, hstep⟩ (by simp only; omega) ?_
        exact lmz
      ·have d3 : decide ((i : Int) < (Ls.length : Int)) = false := by simpa using hli
       rw [List.take_of_length_le (by omega)] at hb
       (refine wk1 (an @tInts_len (an @List.length_map.{0, 0} @d3)) ?_;(repeat clear hK K);repeat refine kq fun K hK=>?_)
       refine cyz ?_
       (refine ekz ?_;repeat clear hK K)
       (refine wk0 ?_;(repeat clear hK K);repeat refine kq fun K hK=>?_)
       refine rnz ?_
       refine hK _ (s + 1, B.set s b) ⟨by simp only; omega, by simp [hBl], fun u hu => ?_, fun u hu => ?_⟩ (by simp only; omega) ?_
       ·simp only at hu ⊢
        rw [List.getD_eq_getElem?_getD]
        by_cases e : s = u
        ·subst e
         rw [List.getElem?_set_self (by omega), Option.getD_some]
         exact hb
        ·rw [List.getElem?_set_ne e, ← List.getD_eq_getElem?_getD]
         exact hB1 u (by omega)
       ·simp only at hu ⊢
        rw [List.getD_eq_getElem?_getD, List.getElem?_set_ne (by omega), ← List.getD_eq_getElem?_getD]
        exact hB2 u (by omega)
       ·exact lmz
    ·have hfin : DvL R B := by
      refine ⟨hBl, fun u hu => ?_⟩
      rw [Dv_iff hlo hLs hu]
      rcases Nat.lt_or_ge u s with h | h
      ·exact hB1 u h
      ·rw [hB2 u h]
       have h0 : Ls = [] := List.length_eq_zero_iff.1 (by omega)
       simp [h0]
     by_cases hlt : s < R.length
     ·have d1 : decide ((s : Int) < (R.length : Int)) = true := by simpa using hlt
      have d2 : decide ((Ls.length : Int) > 0) = false := decide_eq_false (by omega)
      (refine wk1 (an @tRows_len (an @d1 (an @tInts_len (an @List.length_map.{0, 0} @d2)))) ?_;(repeat clear hK K);repeat refine kq fun K hK=>?_)
      refine cyz ?_
      (refine ekz ?_;repeat clear hK K)
      (refine wk0 ?_;(repeat clear hK K);repeat refine kq fun K hK=>?_)
      refine rp1 [1] Tryz.results46 @cBs_ren ?_
      exact ⟨B, hfin, rfl⟩
     ·have d1 : decide ((s : Int) < (R.length : Int)) = false := by simpa using hlt
      (refine wk1 (an @tRows_len @d1) ?_;(repeat clear hK K);repeat refine kq fun K hK=>?_)
      refine cyz ?_
      (refine ekz ?_;repeat clear hK K)
      (refine wk0 ?_;(repeat clear hK K);repeat refine kq fun K hK=>?_)
      refine rp1 [1] Tryz.results46 @cBs_ren ?_
      exact ⟨B, hfin, rfl⟩
theorem rdvgT_fc (R : List (List Ar)) (hv : valB R = true) (hn : R.length ≤ 1000000) (hr : ∀ r ∈ R, r.length ≤ 1000000) : FC Tryz.prog 46 [aLts R] [] (fun r o => ∃ B, DvL R B ∧ o = [] ∧ r = .a (.c (.t 1 (tBs B)))) :=
 (rdvg_fc R hv hn hr).frzP (fun B => fz_bs B) (by omega) (fun B h => by rw [tBs_len]; have := h.1; omega)
def WA (R : List (List Ar)) (s : Nat) (e : Int) (u : Nat) : Prop := (e = 0 ∧ Rc (Adj true R) s u) ∨ (e ≠ 0 ∧ ∃ t, Rc (Adj true R) s t ∧ ∃ a ∈ R.getD t [], a.1 = e ∧ Rc (Adj true R) a.2.toNat u)
def wArr (R : List (List Ar)) (s : Nat) (e : Int) (L : List Int) : Prop := ∃ B : List Bool, B.length = R.length ∧ L = rL R.length B ∧ ∀ u, u < R.length → (seenB B u = true ↔ WA R s e u)
theorem toNat_map {l : List Int} (h : ∀ x ∈ l, 0 ≤ x) : (l.map Int.toNat).map Int.ofNat = l := by
 rw [List.map_map]
 have : ∀ x ∈ l, (Int.ofNat ∘ Int.toNat) x = id x := fun x hx => by
  have := h x hx
  simp only [Function.comp_apply, Int.ofNat_eq_natCast, id_eq]; omega
 rw [List.map_congr_left this, List.map_id]
set_option maxHeartbeats 4000000 in
theorem aft_fc (R : List (List Ar)) (sn : Nat) (e : Int) (hv : valB R = true) (hsl : sn < R.length) (h3 : 0 ≤ e) (h4 : e ≤ 1025) (hn : R.length ≤ 1000000) (hr : ∀ r ∈ R, r.length ≤ 1000000) : FC Tryz.prog 82 [aLts R, .a (.c (.t 1 (tInts [(sn : Int)]))), .i e] [] (fun r o => ∃ L, wArr R sn e L ∧ o = [] ∧ r = aInts L) := by
 refine fc_intro Tryz.func82 rfl (by rw [Tryz.ntmps82]; simp) ?_
 rw [Tryz.ntmps82]
 simp only [enum, aLts]
 have hlo : looB R = true := decide_eq_true (of_decide_eq_true hv).1
 have hbd := (of_decide_eq_true hlo).2.2.2
 have c3 : decide (e < 0) = false := decide_eq_false (by omega)
 have c4 : decide (e > 1025) = false := decide_eq_false (by omega)
 (refine wk0 ?_;(repeat clear hK K);repeat refine kq fun K hK=>?_)
 (refine ckz (validR_fc R (by omega) (fun r h => by have := hr r h; omega)) ?_; intro K1 hK1)
 rintro _ _ ⟨rfl, rfl⟩
 (refine bkz ?_; clear hK1 K1)
 (refine wk1 (an @hv @Bool.not_true) ?_;(repeat clear hK K);repeat refine kq fun K hK=>?_)
 (refine lst_goU rfl rfl (by simp only [go_sem] <;> rfl) ?_; intro K1 hK1; refine (stp_call0 (ids := []) (inSt_fc R [(sn : Int)] (by simpa using hsl) hn (by simp)) rfl rfl (by simp only [go_sem]) (by kernel_rfl) (by (simp only [List.append_nil, go_sem]) <;> rfl) ?_).stp)
 rintro _ _ ⟨rfl, rfl⟩
 (refine bkz ?_; clear hK1 K1)
 (refine wk1 (an @Bool.not_true (an @c3 @c4)) ?_;(repeat clear hK K);repeat refine kq fun K hK=>?_)
 refine cyz ?_
 (refine wk0 ?_;(repeat clear hK K);repeat refine kq fun K hK=>?_)
 (refine ckz (reT_fc R [sn] hv (by simpa using hsl) (by simp) hn hr) ?_; intro K1 hK1)
 rintro _ _ ⟨B, hB, rfl, rfl⟩
 (refine bkz ?_; clear hK1 K1)
 have hBr : ∀ u, seenB B u = true ↔ Rc (Adj true R) sn u := fun u => by rw [hB.2]; simp
 by_cases he : e = 0
 ·have d0 : (e == 0) = true := by simp [he]
  (refine wk1 @d0 ?_;(repeat clear hK K);repeat refine kq fun K hK=>?_)
  refine cxz ?_
  (refine wk0 ?_;(repeat clear hK K);repeat refine kq fun K hK=>?_)
  refine rp0 [] Tryz.results82 ?_
  refine ⟨_, ⟨B, hB.1, rfl, fun u _ => ?_⟩, rfl⟩
  rw [hBr]
  unfold WA
  simp [he]
 ·have d0 : (e == 0) = false := by simpa using he
  obtain ⟨M, hM⟩ : ∃ M, M = (List.range R.length).filter (seenB B) := ⟨_, rfl⟩
  have hLM : rL R.length B = M.map Int.ofNat := by rw [hM]; rfl
  have hMm : ∀ v, v ∈ M ↔ v < R.length ∧ Rc (Adj true R) sn v := fun v => by rw [hM, List.mem_filter, List.mem_range, hBr]
  have hMl : M.length ≤ R.length := by have := rL_len R.length B; rw [hLM, List.length_map] at this; exact this
  rw [hLM]
  clear hM hLM
  (refine wk1 @d0 ?_;(repeat clear hK K);repeat refine kq fun K hK=>?_)
  refine cyz ?_
  (refine wk0 ?_;(repeat clear hK K);repeat refine kq fun K hK=>?_)
  refine aw_le (le_nilt 8 1 ?_) ?_
  ·simp only [go_sem]
  have htn : tInts ([] : List Int) = [] := rfl
  refine aw_loop (fun i : Nat => { tm := [(2, .i e), (3, .a (.c (.p 0 0))), (7, .a (.c (.t 1 (tInts (M.map Int.ofNat))))), (8, .a (.c (.t 1 (tInts (tgI R (M.take i) e []))))), (9, .i i)], hp := [.r ⟨25, 1, false, [.t 1 (tRows R)]⟩], n := 84, pin := 0 }) (fun i => i ≤ M.length) (fun i => M.length - i) 0 ?_ ?_ ?_
  ·omega
  ·simp only [List.take_zero, tgI, List.foldl_nil, htn]
   exact lmz
  ·rintro i hi K hK
   by_cases hlt : i < M.length
   ·have d1 : decide ((i : Int) < (M.length : Int)) = true := by simpa using hlt
    have gL : (tInts (M.map Int.ofNat))[i]? = some (.v (.int .i64 (M[i] : Int))) := tInts_get (by rw [List.getElem?_map, List.getElem?_eq_getElem hlt]; rfl)
    have hul := ((hMm _).1 (List.getElem_mem hlt)).1
    have hTk : M.take (i + 1) = M.take i ++ [M[i]] := List.take_succ_eq_append_getElem hlt
    have hsub : ∀ v ∈ M.take i, v < R.length := fun v hv => ((hMm v).1 (List.mem_of_mem_take hv)).1
    generalize M[i] = u at *
    have hgR := List.getElem?_eq_getElem hul
    have hrl := hr _ (List.getElem_mem hul)
    have hRu : R.getD u [] = R[u] := by rw [List.getD_eq_getElem?_getD, hgR]; rfl
    have hbr := hbd _ (List.getElem_mem hul)
    generalize hrr : R[u] = row at *
    have hacc : Asc (tgI R (M.take i) e []) ∧ ∀ x ∈ tgI R (M.take i) e [], 0 ≤ x ∧ x < (R.length : Int) := by
     refine ⟨tgI_asc _ _ List.Pairwise.nil, fun x hx => ?_⟩
     rw [mem_tgI] at hx
     rcases hx with h | ⟨s, hs, a, ha, _, rfl⟩
     ·simp at h
     ·have hsl2 := hsub s hs
      rw [List.getD_eq_getElem?_getD, List.getElem?_eq_getElem hsl2, Option.getD_some] at ha
      have := hbd _ (List.getElem_mem hsl2) a ha
      exact ⟨this.2.2.1, this.2.2.2⟩
    have hnx : tgI R (M.take (i + 1)) e [] = tgi1 row e (tgI R (M.take i) e []) := by rw [hTk, tgI_snoc, hRu]
    generalize tgI R (M.take i) e [] = acc at *
    have hKo := hK
    (refine wk1 (an @d1 (an @tInts_len @List.length_map.{0, 0})) ?_;(repeat clear hK K);repeat refine kq fun K hK=>?_)
    refine cxz ?_
    (refine wk0 ?_;(repeat clear hK K);repeat refine kq fun K hK=>?_)
    refine aw_loop (fun k : Nat => { tm := [(2, .i e), (3, .a (.c (.p 0 0))), (7, .a (.c (.t 1 (tInts (M.map Int.ofNat))))), (8, .a (.c (.t 1 (tInts (tgi1 (row.take k) e acc))))), (9, .i i), (10, .i k)], hp := [.r ⟨25, 1, false, [.t 1 (tRows R)]⟩], n := 84, pin := 0 }) (fun k => k ≤ row.length) (fun k => row.length - k) 0 ?_ ?_ ?_
    ·omega
    ·simp only [List.take_zero, tgi1, List.foldl_nil]
     exact lmz
    ·rintro k hk K hK
     by_cases hlt2 : k < row.length
     ·have d2 : decide ((k : Int) < (row.length : Int)) = true := by simpa using hlt2
      have ha0 := tArcs_c0 hlt2
      have ha1 := tArcs_c1 hlt2
      have hsn := tgi1_snoc (row.take k) e acc row[k]
      rw [← List.take_succ_eq_append_getElem hlt2] at hsn
      have hql : (tgi1 (row.take k) e acc).length ≤ R.length := asc_bd (tgi1_asc _ _ hacc.1) fun x hx => by
       rw [mem_tgi1] at hx
       rcases hx with h | ⟨a, ha, _, rfl⟩
       ·exact hacc.2 x h
       ·have := hbr a (List.mem_of_mem_take ha)
        exact ⟨this.2.2.1, this.2.2.2⟩
      generalize tgi1 (row.take k) e acc = q at *
      (refine wk0 ?_;(repeat clear hK K);repeat refine kq fun K hK=>?_)
      (refine aw_regionU 10 [(0, 0), (1, 0), (2, 1), (3, 0), (4, 0), (5, 0), (6, 1), (7, 0), (8, 1), (9, 0), (10, 2)] (by kernel_rfl) (by kernel_rfl) (by intro c st h; simp [ThenA, InBl, Ret] at h) ?_)
      (refine uk1 (an @tRows_len (an (tRows_get hgR) (an @tInts_len (an @List.length_map.{0, 0} (an @gL (an @tArcs_len (an @half2 @d2))))))) ?_; repeat clear hK K)
      refine cxz ?_
      (refine wk0 ?_;(repeat clear hK K);repeat refine kq fun K hK=>?_)
      by_cases hae : row[k].1 = e
      ·have d3 : (row[k].1 == e) = true := by simpa using hae
       rw [if_pos hae] at hsn
       (refine aw_regionU 13 [(0, 0), (1, 1), (2, 0), (3, 0), (4, 0), (5, 1), (6, 0), (7, 1), (8, 0), (9, 0), (10, 0), (11, 1), (12, 0), (13, 2)] (by kernel_rfl) (by kernel_rfl) (by intro c st h; simp [ThenA, InBl, Ret] at h) ?_)
       (refine uk1 (an @tRows_len (an (tRows_get hgR) (an @tInts_len (an @List.length_map.{0, 0} (an @gL (an @tArcs_len (an @half2 (an @ha0 @d3)))))))) ?_; repeat clear hK K)
       refine cxz ?_
       (refine wk0 ?_;(repeat clear hK K);repeat refine kq fun K hK=>?_)
       (refine aw_regionU 13 [(0, 0), (1, 0), (2, 1), (3, 0), (4, 0), (5, 0), (6, 1), (7, 0), (8, 1), (9, 0), (10, 0), (11, 0), (12, 1), (13, 2), (14, 0)] (by kernel_rfl) (by kernel_rfl) (by intro c st h; simp [ThenA, InBl, Ret] at h) ?_)
       (refine uk1 (an @tRows_len (an (tRows_get hgR) (an @tInts_len (an @List.length_map.{0, 0} (an @gL (an @tArcs_len (an @half2 @ha1))))))) ?_; repeat clear hK K)
       (refine uckz (addT_fc q row[k].2 (by omega)) ?_; intro K1 hK1)
       rintro _ _ ⟨rfl, rfl⟩
       (refine bkz ?_; clear hK1 K1)
       (refine uk0 ?_; repeat clear hK K)
       (refine wk0 ?_;(repeat clear hK K);repeat refine kq fun K hK=>?_)
       refine rnz ?_
       refine hK _ (k + 1) (by omega) (by omega) ?_
       rw [hsn]
       exact lmz
      ·have d3 : (row[k].1 == e) = false := by simpa using hae
       rw [if_neg hae] at hsn
       (refine aw_regionU 13 [(0, 0), (1, 1), (2, 0), (3, 0), (4, 0), (5, 1), (6, 0), (7, 1), (8, 0), (9, 0), (10, 0), (11, 1), (12, 0), (13, 2)] (by kernel_rfl) (by kernel_rfl) (by intro c st h; simp [ThenA, InBl, Ret] at h) ?_)
       (refine uk1 (an @tRows_len (an (tRows_get hgR) (an @tInts_len (an @List.length_map.{0, 0} (an @gL (an @tArcs_len (an @half2 (an @ha0 @d3)))))))) ?_; repeat clear hK K)
       refine cyz ?_
       (refine wk0 ?_;(repeat clear hK K);repeat refine kq fun K hK=>?_)
       refine rnz ?_
       refine hK _ (k + 1) (by omega) (by omega) ?_
       rw [hsn]
       exact lmz
     ·have d2 : decide ((k : Int) < (row.length : Int)) = false := by simpa using hlt2
      have htr : row.take k = row := List.take_of_length_le (by omega)
      rw [htr, ← hnx]
      (refine wk0 ?_;(repeat clear hK K);repeat refine kq fun K hK=>?_)
      (refine aw_regionU 10 [(0, 0), (1, 0), (2, 1), (3, 0), (4, 0), (5, 0), (6, 1), (7, 0), (8, 1), (9, 0), (10, 2)] (by kernel_rfl) (by kernel_rfl) (by intro c st h; simp [ThenA, InBl, Ret] at h) ?_)
      (refine uk1 (an @tRows_len (an (tRows_get hgR) (an @tInts_len (an @List.length_map.{0, 0} (an @gL (an @tArcs_len (an @half2 @d2))))))) ?_; repeat clear hK K)
      refine cyz ?_
      (refine ekz ?_;repeat clear hK K)
      (refine wk0 ?_;(repeat clear hK K);repeat refine kq fun K hK=>?_)
      refine rnz ?_
      refine hKo _ (i + 1) (by omega) (by omega) ?_
      exact lmz
   ·have d1 : decide ((i : Int) < (M.length : Int)) = false := by simpa using hlt
    have htM : M.take i = M := List.take_of_length_le (by omega)
    rw [htM]
    have htm : ∀ x, x ∈ tgI R M e [] ↔ ∃ s ∈ M, ∃ a ∈ R.getD s [], a.1 = e ∧ a.2 = x := fun x => by rw [mem_tgI]; simp
    have htb : ∀ x ∈ tgI R M e [], 0 ≤ x ∧ x < (R.length : Int) := fun x hx => by
     obtain ⟨s, hs, a, ha, _, rfl⟩ := (htm x).1 hx
     have hsl2 := ((hMm s).1 hs).1
     rw [List.getD_eq_getElem?_getD, List.getElem?_eq_getElem hsl2, Option.getD_some] at ha
     have := hbd _ (List.getElem_mem hsl2) a ha
     exact ⟨this.2.2.1, this.2.2.2⟩
    have htl := asc_bd (tgI_asc (R := R) (e := e) M [] List.Pairwise.nil) htb
    generalize tgI R M e [] = T at *
    obtain ⟨F, hF⟩ : ∃ F : List Nat, F = T.map Int.toNat := ⟨_, rfl⟩
    have hFT : T = F.map Int.ofNat := by rw [hF, toNat_map fun x hx => (htb x hx).1]
    have hFl : F.length ≤ R.length := by rw [hF, List.length_map]; exact htl
    have hFm : ∀ v, v ∈ F ↔ (v : Int) ∈ T := fun v => by
     rw [hF, List.mem_map]
     constructor
     ·rintro ⟨x, hx, rfl⟩
      have := htb x hx
      rw [show ((x.toNat : Nat) : Int) = x by omega]; exact hx
     ·intro h; exact ⟨_, h, by simp⟩
    rw [hFT]
    (refine wk1 (an @d1 (an @tInts_len @List.length_map.{0, 0})) ?_;(repeat clear hK K);repeat refine kq fun K hK=>?_)
    refine cyz ?_
    (refine ekz ?_;repeat clear hK K)
    (refine wk0 ?_;(repeat clear hK K);repeat refine kq fun K hK=>?_)
    (refine ckz (reT_fc R F hv (fun v hv => by have := htb _ ((hFm v).1 hv); omega) (by omega) hn hr) ?_; intro K1 hK1)
    rintro _ _ ⟨B2, hB2, rfl, rfl⟩
    (refine bkz ?_; clear hK1 K1)
    (refine wk0 ?_;(repeat clear hK K);repeat refine kq fun K hK=>?_)
    refine rp0 [] Tryz.results82 ?_
    refine ⟨_, ⟨B2, hB2.1, rfl, fun u _ => ?_⟩, rfl⟩
    rw [hB2.2]
    unfold WA
    constructor
    ·rintro ⟨v, h5, h6⟩
     obtain ⟨s, hs, a, ha, hae, hav⟩ := (htm _).1 ((hFm v).1 h5)
     refine .inr ⟨he, s, ((hMm s).1 hs).2, a, ha, hae, ?_⟩
     rw [hav, Int.toNat_natCast]; exact h6
    ·rintro (⟨h5, _⟩ | ⟨_, s, h5, a, ha, hae, h6⟩)
     ·exact absurd h5 he
     ·have hsr := h5.lt hsl (adj_lt true hlo)
      refine ⟨a.2.toNat, (hFm _).2 ((htm _).2 ⟨s, (hMm s).2 ⟨hsr, h5⟩, a, ha, hae, ?_⟩), h6⟩
      rw [List.getD_eq_getElem?_getD, List.getElem?_eq_getElem hsr, Option.getD_some] at ha
      have := hbd _ (List.getElem_mem hsr) a ha
      omega
theorem warr_fc (R : List (List Ar)) (sn : Nat) (e : Int) (hv : valB R = true) (hsl : sn < R.length) (h3 : 0 ≤ e) (h4 : e ≤ 1025) (hn : R.length ≤ 1000000) (hr : ∀ r ∈ R, r.length ≤ 1000000) : FC Tryz.prog 69 [aLts R, .i sn, .i e] [] (fun r o => ∃ L, wArr R sn e L ∧ o = [] ∧ r = aInts L) := by
 refine fc_intro Tryz.func69 rfl (by rw [Tryz.ntmps69]; simp) ?_
 rw [Tryz.ntmps69]
 simp only [enum, aLts]
 have c1 : decide ((sn : Int) < 0) = false := decide_eq_false (by omega)
 have c2 : decide ((sn : Int) ≥ (R.length : Int)) = false := decide_eq_false (by omega)
 have c3 : decide (e < 0) = false := decide_eq_false (by omega)
 have c4 : decide (e > 1025) = false := decide_eq_false (by omega)
 (refine wk0 ?_;(repeat clear hK K);repeat refine kq fun K hK=>?_)
 (refine ckz (validR_fc R (by omega) (fun r h => by have := hr r h; omega)) ?_; intro K1 hK1)
 rintro _ _ ⟨rfl, rfl⟩
 (refine bkz ?_; clear hK1 K1)
 (refine wk1 (an @hv (an @Bool.not_true (an @c1 (an @c2 (an @c3 (an @c4 @tRows_len)))))) ?_;(repeat clear hK K);repeat refine kq fun K hK=>?_)
 refine cyz ?_
 (refine wk0 ?_;(repeat clear hK K);repeat refine kq fun K hK=>?_)
 (refine lst_le (le_frz (r := ⟨3, 1, true, cInts [(sn : Int)]⟩) 1 (tInts [(sn : Int)]) rfl (fz_c _) (show 0 < (1 : Nat) by omega)) ?_; simp only [ST.frz, A0.frz, AV.frz, C.frz, Nat.le_refl, List.set_cons_zero, List.set_cons_succ, go_sem, tInts_one])
 (refine wk0 ?_;(repeat clear hK K);repeat refine kq fun K hK=>?_)
 (refine ckz (aft_fc R sn e hv hsl h3 h4 hn hr) ?_; intro K1 hK1)
 rintro _ _ ⟨L, hL, rfl, rfl⟩
 (refine bkz ?_; clear hK1 K1)
 (refine wk0 ?_;(repeat clear hK K);repeat refine kq fun K hK=>?_)
 refine rp0 [] Tryz.results69 ?_
 exact ⟨L, hL, rfl⟩
end Go.Proofs.YtahnebicgbjonaaGreat
