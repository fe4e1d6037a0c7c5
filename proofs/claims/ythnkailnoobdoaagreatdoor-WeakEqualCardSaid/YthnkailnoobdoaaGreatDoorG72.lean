/- Lemmas. -/
import Derived.Test.YthnkailnoobdoaaGreatDoorZk
import Derived.Test.YthnkailnoobdoaaGreatDoorMF
import Derived.Test.YthnkailnoobdoaaGreatDoorG45
import Derived.Test.YthnkailnoobdoaaGreatDoorMG
import Derived.Test.YthnkailnoobdoaaGreatDoorG70
import Derived.Test.YthnkailnoobdoaaGreatDoorOd1
import Derived.Test.YthnkailnoobdoaaGreatDoorMK
import Derived.Test.YthnkailnoobdoaaGreatDoorG67
namespace Go.Proofs.YthnkailnoobdoaaGreatDoor
set_option linter.unusedVariables false
set_option linter.unusedSimpArgs false
open Go.RowKit
set_option maxRecDepth 100000
attribute [local go_sem] lga C.pl C.one

theorem O3 {c : List Int} {row : List Ar} {e x : Int} {k : Nat} (h : k < row.length) : LE c (row.take (k + 1)) e x = (LE c (row.take k) e x || (row[k].1 == e && c.getD row[k].2.toNat 0 == x)) := by
 unfold LE
 rw [gE8 h, List.any_append]
 simp
theorem Sq (row : List Ar) (c : List Int) (e x : Int) (hn : row.length <= 140737488355328) (hc : c.length <= 140737488355328) (hb : ∀ a ∈ row, 0 <= a.2 /\ a.2 < (c.length : Int)) : FC Tryz.prog 111 [Dx row, Aq c, .i e, .i x] [] (fun r o => o = [] /\ r = .b (LE c row e x)) := by
 refine A9 Tryz.func111 rfl (by rw [Tryz.ntmps111]; simp) ?_
 rw [Tryz.ntmps111]
 simp only [Bz, Dx, Aq]
 (refine We ?_;(repeat clear hK K);repeat refine kq fun K hK=>?_)
 refine A6 (fun k : Nat => { tm := [(0, .a (.c (.t 2 (At row)))), (1, .a (.c (.t 1 (Aa c)))), (2, .i e), (3, .i x), (9, .i k)], hp := [], n := 35, pin := 0 }) (fun k => k <= row.length /\ LE c (row.take k) e x = false) (fun k => row.length - k) 0 ?_ ?_ ?_
 ·exact ⟨by omega, by simp [LE]⟩
 ·exact Wo
 rintro k ⟨hk, hno⟩ K hK
 by_cases hlt : k < row.length
 rotate_left
 ·have d1 : decide ((k : Int) < (row.length : Int)) = false := by simpa using hlt
  rw [gE7 (by omega)] at hno
  (refine Wf (an @A3 (an @Al @d1)) ?_;(repeat clear hK K);repeat refine kq fun K hK=>?_)
  refine Wm ?_
  (refine Wi ?_;repeat clear hK K)
  (refine We ?_;(repeat clear hK K);repeat refine kq fun K hK=>?_)
  refine Wr Tryz.results111 ?_
  rw [hno]
 have d1 : decide ((k : Int) < (row.length : Int)) = true := by simpa using hlt
 have hmem := gE6 hlt
 have hba := hb _ hmem
 have g0 := CQ hlt
 have g1 := Dk hlt
 have hst := O3 (c := c) (e := e) (x := x) hlt
 have hall : LE c (row.take (k + 1)) e x = true -> LE c row e x = true := fun h => by
  unfold LE at h ⊢
  rw [List.any_eq_true] at h ⊢
  obtain ⟨y, h1, h2⟩ := h
  exact ⟨y, List.mem_of_mem_take h1, h2⟩
 generalize row[k] = a at *
 obtain ⟨e0, t⟩ := a
 simp only at g0 g1 hba hst
 obtain ⟨tn, rfl⟩ : ∃ tn : Nat, t = (tn : Int) := ⟨t.toNat, by omega⟩
 have htn : tn < c.length := by omega
 have gc := Aj (gE1 htn)
 rw [hno, Bool.false_or, Int.toNat_natCast, gE2, gE1 htn, Option.getD_some] at hst
 (refine Wf (an @A3 (an @Al @d1)) ?_;(repeat clear hK K);repeat refine kq fun K hK=>?_)
 refine Wl ?_
 by_cases he : e0 = e
 rotate_left
 ·have d2 : (e0 == e) = false := by simpa using he
  (refine Wf (an @A3 (an @Al (an @g0 (an @g1 @d2)))) ?_;(repeat clear hK K);repeat refine kq fun K hK=>?_)
  refine Wm ?_
  (refine We ?_;(repeat clear hK K);repeat refine kq fun K hK=>?_)
  refine Wn ?_
  refine hK _ (k + 1) ⟨by omega, by rw [hst, d2]; rfl⟩ (by omega) ?_
  exact Wo
 have d2 : (e0 == e) = true := by simpa using he
 by_cases hx : c[tn] = x
 ·have d3 : (c[tn] == x) = true := by simpa using hx
  (refine Wf (an @A3 (an @Al (an @g0 (an @g1 (an @d2 (an @Yi (an @gc @d3))))))) ?_;(repeat clear hK K);repeat refine kq fun K hK=>?_)
  refine Wl ?_
  (refine We ?_;(repeat clear hK K);repeat refine kq fun K hK=>?_)
  refine Wr Tryz.results111 ?_
  rw [hall (by rw [hst, d2, d3]; rfl)]
 have d3 : (c[tn] == x) = false := by simpa using hx
 (refine Wf (an @A3 (an @Al (an @g0 (an @g1 (an @d2 (an @Yi (an @gc @d3))))))) ?_;(repeat clear hK K);repeat refine kq fun K hK=>?_)
 refine Wm ?_
 (refine We ?_;(repeat clear hK K);repeat refine kq fun K hK=>?_)
 refine Wn ?_
 refine hK _ (k + 1) ⟨by omega, by rw [hst, d2, d3]; rfl⟩ (by omega) ?_
 exact Wo
theorem O4 {c : List Int} {row b : List Ar} {k : Nat} (h : k < row.length) : Ir c (row.take (k + 1)) b = (Ir c (row.take k) b && LE c b row[k].1 (c.getD row[k].2.toNat 0)) := by
 unfold Ir
 rw [gE8 h, List.all_append]
 simp
theorem QO (row b : List Ar) (c : List Int) (hn : row.length <= 140737488355328) (hbn : b.length <= 140737488355328) (hc : c.length <= 140737488355328) (hb : ∀ a ∈ row, 0 <= a.2 /\ a.2 < (c.length : Int)) (hb2 : ∀ a ∈ b, 0 <= a.2 /\ a.2 < (c.length : Int)) : FC Tryz.prog 91 [Dx row, Dx b, Aq c] [] (fun r o => o = [] /\ r = .b (Ir c row b)) := by
 refine A9 Tryz.func91 rfl (by rw [Tryz.ntmps91]; simp) ?_
 rw [Tryz.ntmps91]
 simp only [Bz, Dx, Aq]
 (refine We ?_;(repeat clear hK K);repeat refine kq fun K hK=>?_)
 refine A6 (fun k : Nat => { tm := [(0, .a (.c (.t 2 (At row)))), (1, .a (.c (.t 2 (At b)))), (2, .a (.c (.t 1 (Aa c)))), (7, .i k)], hp := [], n := 31, pin := 0 }) (fun k => k <= row.length /\ Ir c (row.take k) b = true) (fun k => row.length - k) 0 ?_ ?_ ?_
 ·exact ⟨by omega, by simp [Ir]⟩
 ·exact Wo
 rintro k ⟨hk, hno⟩ K hK
 by_cases hlt : k < row.length
 rotate_left
 ·have d1 : decide ((k : Int) < (row.length : Int)) = false := by simpa using hlt
  rw [gE7 (by omega)] at hno
  (refine Wf (an @A3 (an @Al @d1)) ?_;(repeat clear hK K);repeat refine kq fun K hK=>?_)
  refine Wm ?_
  (refine Wi ?_;repeat clear hK K)
  (refine We ?_;(repeat clear hK K);repeat refine kq fun K hK=>?_)
  refine Wr Tryz.results91 ?_
  rw [hno]
 have d1 : decide ((k : Int) < (row.length : Int)) = true := by simpa using hlt
 have hmem := gE6 hlt
 have hba := hb _ hmem
 have g0 := CQ hlt
 have g1 := Dk hlt
 have hst := O4 (c := c) (b := b) hlt
 have hall : Ir c (row.take (k + 1)) b = false -> Ir c row b = false := fun h => by
  unfold Ir at h ⊢
  rw [List.all_eq_false] at h ⊢
  obtain ⟨y, h1, h2⟩ := h
  exact ⟨y, List.mem_of_mem_take h1, h2⟩
 generalize row[k] = a at *
 obtain ⟨e0, t⟩ := a
 simp only at g0 g1 hba hst
 obtain ⟨tn, rfl⟩ : ∃ tn : Nat, t = (tn : Int) := ⟨t.toNat, by omega⟩
 have htn : tn < c.length := by omega
 have gc := Aj (gE1 htn)
 rw [hno, Bool.true_and, Int.toNat_natCast, gE2, gE1 htn, Option.getD_some] at hst
 (refine Wf (an @A3 (an @Al @d1)) ?_;(repeat clear hK K);repeat refine kq fun K hK=>?_)
 refine Wl ?_
 (refine We ?_;(repeat clear hK K);repeat refine kq fun K hK=>?_)
 (refine Ao 15 [(0, 0), (1, 0), (2, 0), (3, 0), (4, 0), (5, 0), (6, 1), (7, 0), (8, 0), (9, 0), (10, 0), (11, 0), (12, 1), (13, 0), (14, 1), (15, 2), (16, 0)] (by kernel_rfl) (by kernel_rfl) (by intro c st h; simp [Ae, AJ, VD] at h) ?_)
 (refine Wb (an @A3 (an @Al (an @g0 (an @g1 (an @Yi @gc))))) ?_; repeat clear hK K)
 (refine T1 (Sq b c e0 c[tn] hbn hc hb2) ?_; intro K1 hK1)
 rintro _ _ ⟨rfl, rfl⟩
 (refine Wk ?_; clear hK1 K1)
 cases hh : LE c b e0 c[tn] with
 | true =>
  rw [hh] at hst
  (refine Wb @Bool.not_true ?_; repeat clear hK K)
  refine Wm ?_
  (refine We ?_;(repeat clear hK K);repeat refine kq fun K hK=>?_)
  refine Wn ?_
  refine hK _ (k + 1) ⟨by omega, hst⟩ (by omega) ?_
  exact Wo
 | false =>
  rw [hh] at hst
  (refine Wb @Bool.not_false ?_; repeat clear hK K)
  refine Wl ?_
  (refine We ?_;(repeat clear hK K);repeat refine kq fun K hK=>?_)
  refine Wr Tryz.results91 ?_
  rw [hall hst]
def XZ {α : Type} [DecidableEq α] (g : Nat -> α) (n s : Nat) : List Int := (Ww g s).1 ++ List.replicate (n - s) 0
theorem JF {α : Type} [DecidableEq α] (g : Nat -> α) {n s : Nat} (h : s <= n) : (XZ g n s).length = n := by simp [XZ, (Ca g s).len]; omega
theorem U6 {α : Type} [DecidableEq α] (g : Nat -> α) {n s t : Nat} (h : t < s) (hs : s <= n) : (XZ g n s)[t]? = some ((Ww g s).1.getD t 0) := by
 have hl := (Ca g s).len
 unfold XZ
 rw [gEa (by omega), gE2, gE1 (by omega)]; rfl
theorem Sr {α : Type} [DecidableEq α] (g : Nat -> α) {n s : Nat} (h : s < n) {v : Int} {L : List Int} {m : Nat} (hn : Ww g (s + 1) = (L ++ [v], m)) (hL : L = (Ww g s).1) : (XZ g n s).set s v = XZ g n (s + 1) := by
 obtain ⟨q, hq⟩ : ∃ q, n - s = q + 1 := ⟨n - s - 1, by omega⟩
 have hq2 : n - (s + 1) = q := by omega
 have hl := (Ca g s).len
 unfold XZ
 rw [hn, hq, hq2, List.replicate_succ, List.set_append_right _ _ (by omega), hl, Nat.sub_self, List.set_cons_zero, hL]
 simp
theorem Ss {α : Type} [DecidableEq α] (g : Nat -> α) (n : Nat) : XZ g n n = (Ww g n).1 := by simp [XZ]
set_option maxHeartbeats 8000000 in
theorem Q6 (S : List (List Ar)) (c : List Int) (hn : S.length <= 1000000) (hr : ∀ r ∈ S, r.length <= 1000000) (hc : c.length = S.length) (hb : ∀ r ∈ S, ∀ a ∈ r, 0 <= a.2 /\ a.2 < (S.length : Int)) : FC Tryz.prog 74 [.a (.c (.t 1 (Ai S))), Aq c] [] (fun r o => r = .a (.c (.s 0 S.length)) /\ o = [.r ⟨3, 1, true, A7 (Wz S c)⟩]) := by
 refine A9 Tryz.func74 rfl (by rw [Tryz.ntmps74]; simp) ?_
 rw [Tryz.ntmps74]
 simp only [Bz, Aq]
 have hnx : Wz S c = (Ww (Wy S c) S.length).1 := rfl
 have hgd : ∀ s, s < S.length -> S.getD s [] = S[s]?.getD [] := fun s _ => gE2
 have hfeq : ∀ s t, s < S.length -> t < S.length -> (Wy S c t = Wy S c s ↔ c.getD t 0 = c.getD s 0 /\ Ir c (S.getD s []) (S.getD t []) = true /\ Ir c (S.getD t []) (S.getD s []) = true) := fun s t _ _ => by
  unfold Wy
  rw [Prod.mk.injEq, eq_comm (a := Wx S c t), MN]
 (refine Wf @A4 ?_;(repeat clear hK K);repeat refine kq fun K hK=>?_)
 have e0 : List.replicate S.length (C.v (.int .i64 0)) = A7 (XZ (Wy S c) S.length 0) := by simp [A7, XZ, Ww]
 rw [e0]
 refine A6 (fun s : Nat => { tm := [(0, .a (.c (.t 1 (Ai S)))), (1, .a (.c (.t 1 (Aa c)))), (5, .a (.c (.s 0 S.length))), (6, .i (Ww (Wy S c) s).2), (7, .i s)], hp := [.r ⟨3, 1, true, A7 (XZ (Wy S c) S.length s)⟩], n := 85, pin := 0 }) (fun s => s <= S.length) (fun s => S.length - s) 0 ?_ ?_ ?_
 ·omega
 ·simp only [Ww]
  exact Wo
 rintro s hs K hK
 by_cases hlt : s < S.length
 rotate_left
 ·have d1 : decide ((s : Int) < (S.length : Int)) = false := by simpa using hlt
  have hse : s = S.length := by omega
  rw [hse] at d1
  rw [hse, Ss, <- hnx]
  (refine Wf (an @A4 @d1) ?_;(repeat clear hK K);repeat refine kq fun K hK=>?_)
  refine Wm ?_
  (refine Wi ?_;repeat clear hK K)
  (refine We ?_;(repeat clear hK K);repeat refine kq fun K hK=>?_)
  exact Uq [0] Tryz.results74 @Ak
 have d1 : decide ((s : Int) < (S.length : Int)) = true := by simpa using hlt
 have hgS := gE1 hlt
 have hrl := hr _ (gE6 hlt)
 have hbs := hb _ (gE6 hlt)
 have hsc : s < c.length := by rw [hc]; exact hlt
 have hcs : c[s]? = some c[s] := gE1 hsc
 have gcs := Aj hcs
 have hlb := JF (Wy S c) hs
 have hbl := fun t (h : t < s) => U6 (Wy S c) (n := S.length) h hs
 have hok := Ca (Wy S c) s
 have hcnt := hok.cnt
 have hset := fun v L m => Sr (Wy S c) (n := S.length) hlt (v := v) (L := L) (m := m)
 have hS1 : S.getD s [] = S[s] := by rw [gE2, hgS]; rfl
 generalize hB : XZ (Wy S c) S.length s = B at *
 have hset2 : ∀ v w : Int, (B.set s v).set s w = B.set s w := fun v w => by simp
 (refine Wf (an @A4 @d1) ?_;(repeat clear hK K);repeat refine kq fun K hK=>?_)
 refine Wl ?_
 (refine Cr (an @A5 (an @hlb @B3)) ?_;(repeat clear hK K);repeat refine kq fun K hK=>?_)
 refine A6 (fun x : Nat × Int => { tm := [(0, .a (.c (.t 1 (Ai S)))), (1, .a (.c (.t 1 (Aa c)))), (5, .a (.c (.s 0 S.length))), (6, .i (Ww (Wy S c) s).2), (7, .i s), (8, .i x.1)], hp := [.r ⟨3, 1, true, A7 (B.set s x.2)⟩], n := 85, pin := 0 }) (fun x => x.1 <= s /\ ((x.2 = -1 /\ ∀ u, u < x.1 -> Wy S c u ≠ Wy S c s) \/ ∃ t, x.1 = t + 1 /\ Wy S c t = Wy S c s /\ (∀ u, u < t -> Wy S c u ≠ Wy S c s) /\ x.2 = (Ww (Wy S c) s).1.getD t 0)) (fun x => s - x.1) (0, -1) ?_ ?_ ?_
 ·exact ⟨by simp, .inl ⟨rfl, fun u h => by simp at h⟩⟩
 ·exact Wo
 rintro ⟨t, v⟩ ⟨ht, hv⟩ K hK
 simp only at ht hv
 have gv : (A7 (B.set s v))[s]? = some (.v (.int .i64 v)) := Ax (gEc (by omega))
 by_cases hgo : t < s /\ v < 0
 rotate_left
 ·have hcond : (decide ((t : Int) < (s : Int)) = true /\ decide (v < 0) = false) \/ decide ((t : Int) < (s : Int)) = false := by
   by_cases hts : t < s
   ·left; exact ⟨by simpa using hts, by simp; exact Int.not_lt.1 fun h => hgo ⟨hts, h⟩⟩
   right; simpa using hts
  rcases hcond with ⟨d2, d3⟩ | d2
  rotate_left
  ·(refine Wf @d2 ?_;(repeat clear hK K);repeat refine kq fun K hK=>?_)
   refine Wm ?_
   (refine Wi ?_;repeat clear hK K)
   rcases hv with ⟨hve, hno⟩ | ⟨t', h1, h2, h3, h4⟩
   rotate_left
   ·have hnm := Dm (DC (f := Wy S c) (show t' < s by omega) h2 h3)
    have hst := hset _ _ _ hnm rfl
    rw [<- h4] at hst
    have h0 := hok.rng t' (by omega)
    have d4 : decide (v < 0) = false := by simp; omega
    rw [hst]
    rw [hst] at gv
    have hlb2 := JF (Wy S c) (n := S.length) (s := s + 1) (by omega)
    (refine Wf (an @A5 (an @hlb2 (an @gv @d4))) ?_;(repeat clear hK K);repeat refine kq fun K hK=>?_)
    refine Wm ?_
    (refine We ?_;(repeat clear hK K);repeat refine kq fun K hK=>?_)
    refine Wn ?_
    refine hK _ (s + 1) (by omega) (by omega) ?_
    rw [hnm]
    exact Wo
   have hts : t = s := by
    rcases Nat.lt_or_ge t s with h | h
    ·exact absurd ⟨h, by omega⟩ hgo
    omega
   rw [hts] at hno
   have hnm := Dn (DD hno)
   have hst := hset _ _ _ hnm rfl
   have d4 : decide (v < 0) = true := by simp; omega
   (refine Wf (an @A5 (an @List.length_set.{0} (an @hlb (an @gv @d4)))) ?_;(repeat clear hK K);repeat refine kq fun K hK=>?_)
   refine Wl ?_
   (refine Cr (an @A5 (an @List.length_set.{0} (an @hlb (an @B3 (an @List.set_set.{0} @hst))))) ?_;(repeat clear hK K);repeat refine kq fun K hK=>?_)
   refine Wn ?_
   refine hK _ (s + 1) (by omega) (by omega) ?_
   rw [hnm]
   exact Wo
  (refine Wf (an @d2 (an @A5 (an @List.length_set.{0} (an @hlb (an @gv @d3))))) ?_;(repeat clear hK K);repeat refine kq fun K hK=>?_)
  refine Wm ?_
  (refine Wi ?_;repeat clear hK K)
  rcases hv with ⟨hve, hno⟩ | ⟨t', h1, h2, h3, h4⟩
  rotate_left
  ·have hnm := Dm (DC (f := Wy S c) (show t' < s by omega) h2 h3)
   have hst := hset _ _ _ hnm rfl
   rw [<- h4] at hst
   have h0 := hok.rng t' (by omega)
   have d4 : decide (v < 0) = false := by simp; omega
   rw [hst]
   rw [hst] at gv
   have hlb2 := JF (Wy S c) (n := S.length) (s := s + 1) (by omega)
   (refine Wf (an @A5 (an @hlb2 (an @gv @d4))) ?_;(repeat clear hK K);repeat refine kq fun K hK=>?_)
   refine Wm ?_
   (refine We ?_;(repeat clear hK K);repeat refine kq fun K hK=>?_)
   refine Wn ?_
   refine hK _ (s + 1) (by omega) (by omega) ?_
   rw [hnm]
   exact Wo
  have hts : t = s := by
   rcases Nat.lt_or_ge t s with h | h
   ·exact absurd ⟨h, by omega⟩ hgo
   omega
  rw [hts] at hno
  have hnm := Dn (DD hno)
  have hst := hset _ _ _ hnm rfl
  have d4 : decide (v < 0) = true := by simp; omega
  (refine Wf (an @A5 (an @List.length_set.{0} (an @hlb (an @gv @d4)))) ?_;(repeat clear hK K);repeat refine kq fun K hK=>?_)
  refine Wl ?_
  (refine Cr (an @A5 (an @List.length_set.{0} (an @hlb (an @B3 (an @List.set_set.{0} @hst))))) ?_;(repeat clear hK K);repeat refine kq fun K hK=>?_)
  refine Wn ?_
  refine hK _ (s + 1) (by omega) (by omega) ?_
  rw [hnm]
  exact Wo
 obtain ⟨hts, hv0⟩ := hgo
 obtain ⟨hve, hno⟩ : v = -1 /\ ∀ u, u < t -> Wy S c u ≠ Wy S c s := by
  rcases hv with h | ⟨t', h1, _, _, h4⟩
  ·exact h
  have := hok.rng t' (by omega); omega
 have d2 : decide ((t : Int) < (s : Int)) = true := by simpa using hts
 have d3 : decide (v < 0) = true := by simpa using hv0
 have htl : t < S.length := by omega
 have hgT := gE1 htl
 have hrt := hr _ (gE6 htl)
 have hbt := hb _ (gE6 htl)
 have gct := Aj (gE1 (show t < c.length by omega))
 have hS2 : S.getD t [] = S[t] := by rw [gE2, hgT]; rfl
 have gvt : (A7 (B.set s v))[t]? = some (.v (.int .i64 ((Ww (Wy S c) s).1.getD t 0))) := Ax (by rw [gE5 (by omega)]; exact hbl t hts)
 have hfe := hfeq s t hlt htl
 rw [hS1, hS2, gE2, gE2, gE1 (show t < c.length by omega), hcs, Option.getD_some, Option.getD_some] at hfe
 have hgetS := Ac hgS
 have hgetT := Ac hgT
 generalize S[s] = rs at *
 generalize S[t] = rt at *
 (refine Wf (an @d2 (an @A5 (an @List.length_set.{0} (an @hlb (an @gv @d3))))) ?_;(repeat clear hK K);repeat refine kq fun K hK=>?_)
 refine Wl ?_
 (refine We ?_;(repeat clear hK K);repeat refine kq fun K hK=>?_)
 (refine BJ [] [(0, 0, 0), (1, 0, 0), (2, 0, 0), (3, 1, 19), (4, 0, 0), (5, 0, 0), (6, 0, 0), (7, 1, 19), (8, 0, 0), (9, 0, 0), (10, 0, 0), (11, 0, 0), (12, 0, 0), (13, 1, 19), (14, 0, 0), (15, 0, 0), (16, 0, 0), (17, 1, 19), (18, 0, 0), (19, 2, 0), (20, 0, 0), (21, 0, 0), (22, 0, 0), (23, 0, 0), (24, 0, 0), (25, 1, 31), (26, 0, 0), (27, 0, 0), (28, 0, 0), (29, 1, 31), (30, 0, 0), (31, 2, 0), (32, 0, 0)] (by kernel_rfl) (by kernel_rfl) (by intro c st h; simp [Ae, AJ, VD] at h) ?_)
 by_cases q1 : c[t] = c[s]
 rotate_left
 ·have d4 : (c[t] == c[s]) = false := by simpa using q1
  (refine Wd (an @Yi (an @hc (an @gct (an @gcs @d4)))) ?_; repeat clear hK K)
  refine Wm ?_
  (refine We ?_;(repeat clear hK K);repeat refine kq fun K hK=>?_)
  refine Wn ?_
  refine hK _ (t + 1, v) ⟨by simp only; omega, .inl ⟨hve, fun u hu e => ?_⟩⟩ (by simp only; omega) ?_
  rotate_left
  ·exact Wo
  simp only at hu
  by_cases eu : u = t
  rotate_left
  ·exact hno u (by omega) e
  subst eu
  have h3 := hfe.1 e
  have h4 := q1
  simp [h3] at h4
 have d4 : (c[t] == c[s]) = true := by simpa using q1
 (refine Wd (an @Yi (an @hc (an @gct (an @gcs (an @d4 (an @A4 (an @hgetS @hgetT))))))) ?_; repeat clear hK K)
 (refine IV rfl rfl rfl (by simp only [go_sem] <;> rfl) ?_; intro K1 hK1; refine Au ?_; refine xv [] (QO rs rt c (by omega) (by omega) (by omega) (by rw [hc]; exact hbs) (by rw [hc]; exact hbt)) ?_ ?_)
 ·rintro _ _ ⟨rfl, rfl⟩ i o hi hl; simp at hl
 rintro _ _ ⟨rfl, rfl⟩
 (refine Wk ?_; clear hK1 K1)
 cases q2 : Ir c rs rt with
 | true =>
  (refine Wd (an @Yi (an @hc (an @gct (an @gcs (an @d4 (an @A4 (an @hgetS @hgetT))))))) ?_; repeat clear hK K)
  (refine IV rfl rfl rfl (by simp only [go_sem] <;> rfl) ?_; intro K1 hK1; refine Au ?_; refine xv [] (QO rt rs c (by omega) (by omega) (by omega) (by rw [hc]; exact hbt) (by rw [hc]; exact hbs)) ?_ ?_)
  ·rintro _ _ ⟨rfl, rfl⟩ i o hi hl; simp at hl
  rintro _ _ ⟨rfl, rfl⟩
  (refine Wk ?_; clear hK1 K1)
  cases q3 : Ir c rt rs with
  | true =>
   have hyes := hfe.2 ⟨q1, q2, q3⟩
   (refine Wc ?_; repeat clear hK K)
   refine Wl ?_
   (refine Cr (an @A5 (an @List.length_set.{0} (an @hlb (an @gvt (an @B3 @List.set_set.{0}))))) ?_;(repeat clear hK K);repeat refine kq fun K hK=>?_)
   refine Wn ?_
   refine hK _ (t + 1, (Ww (Wy S c) s).1.getD t 0) ⟨by simp only; omega, .inr ⟨t, rfl, hyes, hno, rfl⟩⟩ (by simp only; omega) ?_
   exact Wo
  | false =>
   (refine Wc ?_; repeat clear hK K)
   refine Wm ?_
   (refine We ?_;(repeat clear hK K);repeat refine kq fun K hK=>?_)
   refine Wn ?_
   refine hK _ (t + 1, v) ⟨by simp only; omega, .inl ⟨hve, fun u hu e => ?_⟩⟩ (by simp only; omega) ?_
   rotate_left
   ·exact Wo
   simp only at hu
   by_cases eu : u = t
   rotate_left
   ·exact hno u (by omega) e
   subst eu
   have h3 := hfe.1 e
   have h4 := q3
   simp [h3] at h4
 | false =>
  (refine Wc ?_; repeat clear hK K)
  refine Wm ?_
  (refine We ?_;(repeat clear hK K);repeat refine kq fun K hK=>?_)
  refine Wn ?_
  refine hK _ (t + 1, v) ⟨by simp only; omega, .inl ⟨hve, fun u hu e => ?_⟩⟩ (by simp only; omega) ?_
  rotate_left
  ·exact Wo
  simp only at hu
  by_cases eu : u = t
  rotate_left
  ·exact hno u (by omega) e
  subst eu
  have h3 := hfe.1 e
  have h4 := q2
  simp [h3] at h4
end Go.Proofs.YthnkailnoobdoaaGreatDoor
namespace Go.Proofs.YthnkailnoobdoaaGreatDoor
set_option linter.unusedVariables false
set_option linter.unusedSimpArgs false
open Go.RowKit
set_option maxRecDepth 100000

end Go.Proofs.YthnkailnoobdoaaGreatDoor
namespace Go.Proofs.YthnkailnoobdoaaGreatDoor
set_option linter.unusedVariables false
set_option linter.unusedSimpArgs false
open Go.RowKit
set_option maxRecDepth 100000

theorem DX (xs ys : List Int) (hn : xs.length <= 140737488355328) (hm : ys.length <= 140737488355328) : FC Tryz.prog 11 [Aq xs, Aq ys] [] (fun r o => o = [] /\ r = .b (decide (xs = ys))) := by
 refine A9 Tryz.func11 rfl (by rw [Tryz.ntmps11]; simp) ?_
 rw [Tryz.ntmps11]
 simp only [Bz, Aq]
 (refine Wf @Yi ?_;(repeat clear hK K);repeat refine kq fun K hK=>?_)
 (refine AA ?_; intro X Y hX hY; simp only [go_sem])
 refine ⟨fun h => hX ?_, fun h => hY ?_⟩
 ·clear hX hY X Y
  (refine We ?_;(repeat clear hK K);repeat refine kq fun K hK=>?_)
  refine Wr Tryz.results11 ?_
  have : xs ≠ ys := by rintro rfl; simp at h
  simp [this]
 clear hX hY X Y
 have hlen : xs.length = ys.length := by simp at h; omega
 clear h
 (refine We ?_;(repeat clear hK K);repeat refine kq fun K hK=>?_)
 refine A6 (fun k : Nat => { tm := [(0, .a (.c (.t 1 (Aa xs)))), (1, .a (.c (.t 1 (Aa ys)))), (5, .i k)], hp := [], n := 26, pin := 0 }) (fun k => k <= xs.length /\ xs.take k = ys.take k) (fun k => xs.length - k) 0 ?_ ?_ ?_
 ·exact ⟨by omega, rfl⟩
 ·exact Wo
 rintro k ⟨hk, he⟩ K hK
 (refine Wf @Yi ?_;(repeat clear hK K);repeat refine kq fun K hK=>?_)
 (refine AA ?_; intro X Y hX hY; simp only [go_sem])
 refine ⟨fun h => hX ?_, fun h => hY ?_⟩
 rotate_left
 ·have hge : k = xs.length := by simp at h; omega
  clear hX hY X Y
  (refine Wi ?_;repeat clear hK K)
  (refine We ?_;(repeat clear hK K);repeat refine kq fun K hK=>?_)
  refine Wr Tryz.results11 ?_
  have : xs = ys := by
   rw [hge, List.take_length, hlen, List.take_length] at he
   exact he
  simp [this]
 have hlt : k < xs.length := by simpa using h
 have hlt2 : k < ys.length := by omega
 clear hX hY X Y h
 (refine We ?_;(repeat clear hK K);repeat refine kq fun K hK=>?_)
 (refine Ao 8 [(0, 0), (1, 0), (2, 0), (3, 1), (4, 0), (5, 0), (6, 0), (7, 1), (8, 2)] (by kernel_rfl) (by kernel_rfl) (by intro c st h; simp [Ae, AJ, VD] at h) ?_)
 (refine Wb (an @Yi (an (Aj (gE1 hlt)) (Aj (gE1 hlt2)))) ?_; repeat clear hK K)
 (refine AA ?_; intro X Y hX hY; simp only [go_sem])
 refine ⟨fun h => hX ?_, fun h => hY ?_⟩
 ·clear hX hY X Y
  (refine We ?_;(repeat clear hK K);repeat refine kq fun K hK=>?_)
  refine Wr Tryz.results11 ?_
  have : xs ≠ ys := by rintro rfl; simp at h
  simp [this]
 clear hX hY X Y
 (refine We ?_;(repeat clear hK K);repeat refine kq fun K hK=>?_)
 refine Wn ?_
 refine hK _ (k + 1) ⟨by omega, ?_⟩ (by omega) ?_
 rotate_left
 ·exact Wo
 have h1 : xs[k] = ys[k] := by simpa using h
 rw [gE8 hlt, gE8 hlt2, he, h1]
end Go.Proofs.YthnkailnoobdoaaGreatDoor
namespace Go.Proofs.YthnkailnoobdoaaGreatDoor
set_option linter.unusedVariables false
set_option linter.unusedSimpArgs false
open Go.RowKit
set_option maxRecDepth 100000

end Go.Proofs.YthnkailnoobdoaaGreatDoor
namespace Go.Proofs.YthnkailnoobdoaaGreatDoor
set_option linter.unusedVariables false
set_option linter.unusedSimpArgs false
open Go.RowKit
set_option maxRecDepth 100000
attribute [local go_sem] lga C.pl C.one

theorem Q7 {R : List (List Ar)} (hb : ∀ r ∈ R, ∀ a ∈ r, 0 <= a.1 /\ a.1 <= 1025) {s k : Nat} (hs : s < R.length) : (WX (WY R s) (R[s].take k)).length <= 1026 := by
 obtain ⟨h1, h2, _, _⟩ := H4 hb s (by omega)
 refine H3 (Jo _ _ h1) fun x hx => ?_
 rcases (Gl _ _).1 hx with h | ⟨a, ha, rfl⟩
 ·simpa using h2 x h
 have := hb _ (gE6 hs) a (List.mem_of_mem_take ha); omega
set_option maxHeartbeats 2000000 in
theorem U7 (R : List (List Ar)) (hb : ∀ r ∈ R, ∀ a ∈ r, 0 <= a.1 /\ a.1 <= 1025) (hn : R.length <= 1000000) (hr : ∀ r ∈ R, r.length <= 1000000) : FC Tryz.prog 75 [Bh R] [] (fun r o => o = [] /\ r = Aq (WY R R.length)) := by
 refine A9 Tryz.func75 rfl (by rw [Tryz.ntmps75]; simp) ?_
 rw [Tryz.ntmps75]
 simp only [Bz, Bh]
 (refine We ?_;(repeat clear hK K);repeat refine kq fun K hK=>?_)
 (refine Av (BA (r := ⟨3, 1, true, A7 [0]⟩) 1 (Aa [0]) rfl (Gd _) (show 0 < (1 : Nat) by omega)) ?_; simp only [ST.frz, A0.frz, AV.frz, C.frz, Nat.le_refl, List.set_cons_zero, List.set_cons_succ, go_sem, EI, show (if 1 <= (Aa [0]).length then C.t 1 (Aa [0]) else C.u) = C.t 1 (Aa [0]) from rfl])
 refine Av (A8 [0] rfl rfl) ?_
 (try simp only [List.set_nil, List.take_nil, List.take_zero, List.map_append, go_sem])
 have e0 : Aa [0] = Aa (WY R 0) := rfl
 rw [e0]
 refine A6 (fun s : Nat => { tm := [(1, .a (.c (.p 0 0))), (3, .a (.c (.t 1 (Aa (WY R s))))), (4, .i s)], hp := [.r ⟨25, 1, false, [.t 1 (Ai R)]⟩], n := 36, pin := 0 }) (fun s => s <= R.length) (fun s => R.length - s) 0 ?_ ?_ ?_
 ·omega
 ·exact Wo
 rintro s hs K hK
 by_cases hlt : s < R.length
 rotate_left
 ·have d1 : decide ((s : Int) < (R.length : Int)) = false := by simpa using hlt
  have hse : s = R.length := by omega
  rw [hse] at d1
  rw [hse]
  (refine Wf (an @A4 @d1) ?_;(repeat clear hK K);repeat refine kq fun K hK=>?_)
  refine Wm ?_
  (refine Wi ?_;repeat clear hK K)
  (refine We ?_;(repeat clear hK K);repeat refine kq fun K hK=>?_)
  ((try refine AF ?_); (try simp only [Ae, AJ]); refine Bm (A8 [] rfl rfl) ?_; (try simp only [List.set_nil, List.take_nil, List.take_zero, List.map_append, go_sem]); ((try refine AF ?_); (try refine Ab ?_); (try simp only [Ae, AJ]); refine BE (by first | exact .inl rfl | exact .inr rfl) rfl ?_; simp only [VE, EO, Em, EU, Tryz.results75, go_sem, true_and, and_true, Aq]))
 have d1 : decide ((s : Int) < (R.length : Int)) = true := by simpa using hlt
 have hgR := gE1 hlt
 have hrl := hr _ (gE6 hlt)
 have hev := fun k => Q7 hb (k := k) hlt
 have hsu := KG hlt
 generalize R[s] = row at *
 (refine Wf (an @A4 @d1) ?_;(repeat clear hK K);repeat refine kq fun K hK=>?_)
 refine Wl ?_
 (refine We ?_;(repeat clear hK K);repeat refine kq fun K hK=>?_)
 refine A6 (fun k : Nat => { tm := [(1, .a (.c (.p 0 0))), (3, .a (.c (.t 1 (Aa (WX (WY R s) (row.take k)))))), (4, .i s), (5, .i k)], hp := [.r ⟨25, 1, false, [.t 1 (Ai R)]⟩], n := 36, pin := 0 }) (fun k => k <= row.length) (fun k => row.length - k) 0 ?_ ?_ ?_
 ·omega
 ·simp only [List.take_zero, WX, List.foldl_nil]
  exact Wo
 rintro k hk K hK
 by_cases hlt2 : k < row.length
 rotate_left
 ·have d2 : decide ((k : Int) < (row.length : Int)) = false := by simpa using hlt2
  have htr : row.take k = row := gE7 (by omega)
  rw [htr, <- hsu]
  (refine Wf (an @A4 (an (Ac hgR) (an @A3 (an @Al @d2)))) ?_;(repeat clear hK K);repeat refine kq fun K hK=>?_)
  refine Wm ?_
  (refine Wi ?_;repeat clear hK K)
  (refine We ?_;(repeat clear hK K);repeat refine kq fun K hK=>?_)
  refine Wn ?_
  refine hK _ (s + 1) (by omega) (by omega) ?_
  exact Wo
 have d2 : decide ((k : Int) < (row.length : Int)) = true := by simpa using hlt2
 have ha0 := CQ hlt2
 have hsn := Ps (WY R s) (row.take k) row[k]
 rw [<- gE8 hlt2] at hsn
 have hql := hev k
 generalize WX (WY R s) (row.take k) = q at *
 (refine Wf (an @A4 (an (Ac hgR) (an @A3 (an @Al @d2)))) ?_;(repeat clear hK K);repeat refine kq fun K hK=>?_)
 refine Wl ?_
 (refine Wf (an @A4 (an (Ac hgR) (an @A3 (an @Al @ha0)))) ?_;(repeat clear hK K);repeat refine kq fun K hK=>?_)
 (refine Wj (Nb q row[k].1 (by omega)) ?_; intro K1 hK1)
 rintro _ _ ⟨rfl, rfl⟩
 (refine Wk ?_; clear hK1 K1)
 (refine We ?_;(repeat clear hK K);repeat refine kq fun K hK=>?_)
 refine Wn ?_
 refine hK _ (k + 1) (by omega) (by omega) ?_
 rw [hsn]
 exact Wo
noncomputable def Y0 (R : List (List Ar)) (Ev : List Int) (k : Nat) : List (List Ar) := Xt R Ev k ++ List.replicate (R.length - k) []
theorem St {R : List (List Ar)} {Ev : List Int} {k : Nat} (h : k <= R.length) : (Y0 R Ev k).length = R.length := by simp [Y0, Fh]; omega
theorem UN {R : List (List Ar)} {Ev : List Int} {k : Nat} (h : k < R.length) : (Y0 R Ev k).set k [] = Y0 R Ev k := by
 obtain ⟨q, hq⟩ : ∃ q, R.length - k = q + 1 := ⟨R.length - k - 1, by omega⟩
 unfold Y0
 rw [hq, List.replicate_succ, List.set_append_right _ _ (by rw [Fh]; omega), Fh, Nat.sub_self, List.set_cons_zero]
theorem Su {R : List (List Ar)} {Ev : List Int} {k : Nat} (h : k < R.length) : (Y0 R Ev k).set k (Xs R Ev k) = Y0 R Ev (k + 1) := by
 obtain ⟨q, hq⟩ : ∃ q, R.length - k = q + 1 := ⟨R.length - k - 1, by omega⟩
 have hq2 : R.length - (k + 1) = q := by omega
 unfold Y0
 rw [hq, hq2, List.replicate_succ, List.set_append_right _ _ (by rw [Fh]; omega), Fh, Nat.sub_self, List.set_cons_zero]
 simp [Xt, List.range_succ]
set_option maxHeartbeats 8000000 in
theorem Sv (R : List (List Ar)) (hv : BL R = true) (hn : R.length <= 100) (hr : ∀ r ∈ R, r.length <= 1000000) : FC Tryz.prog 52 [Bh R, .b false] [] (fun r o => r = .a (.c (.s 0 R.length)) /\ o = [.r ⟨41, 1, true, AC (BI R)⟩]) := by
 refine A9 Tryz.func52 rfl (by rw [Tryz.ntmps52]; simp) ?_
 rw [Tryz.ntmps52]
 simp only [Bz, Bh]
 have hlo : BK R = true := gEg (gE4 hv).1
 have hbd := (gE4 hlo).2.2.2
 have hb : ∀ r ∈ R, ∀ a ∈ r, 0 <= a.1 /\ a.1 <= 1025 := fun r hr a ha => by have := hbd r hr a ha; omega
 obtain ⟨hE1, hE2, _, _⟩ := H4 hb R.length (Nat.le_refl _)
 have hEl : (WY R R.length).length <= 1026 := H3 hE1 (by simpa using hE2)
 have hsa : BI R = Xt R (WY R R.length) R.length := rfl
 (refine We ?_;(repeat clear hK K);repeat refine kq fun K hK=>?_)
 (refine Wj (U7 R hb (by omega) hr) ?_; intro K1 hK1)
 rintro _ _ ⟨rfl, rfl⟩
 (refine Wk ?_; clear hK1 K1)
 generalize WY R R.length = Ev at *
 (refine Wf @A4 ?_;(repeat clear hK K);repeat refine kq fun K hK=>?_)
 have e0 : List.replicate R.length (C.o (2, 40) []) = Ay (Y0 R Ev 0) := by simp [Ay, Y0, Xt, At]
 rw [e0]
 refine A6 (fun s : Nat => { tm := [(1, .b false), (2, .a (.c (.p 0 0))), (5, .a (.c (.t 1 (Aa Ev)))), (6, .a (.c (.s 1 R.length))), (7, .i s)], hp := [.r ⟨25, 1, false, [.t 1 (Ai R)]⟩, .r ⟨41, 1, true, Ay (Y0 R Ev s)⟩], n := 70, pin := 0 }) (fun s => s <= R.length) (fun s => R.length - s) 0 ?_ ?_ ?_
 ·omega
 ·exact Wo
 rintro s hs K hK
 by_cases hlt : s < R.length
 rotate_left
 ·have d1 : decide ((s : Int) < (R.length : Int)) = false := by simpa using hlt
  have hse : s = R.length := by omega
  have hend : Y0 R Ev R.length = BI R := by rw [hsa]; simp [Y0]
  rw [hse] at d1
  rw [hse, hend]
  (refine Wf (an @A4 @d1) ?_;(repeat clear hK K);repeat refine kq fun K hK=>?_)
  refine Wm ?_
  (refine Wi ?_;repeat clear hK K)
  refine Av (CD 1 rfl) ?_
  simp only [Gs, go_sem]
  (refine We ?_;(repeat clear hK K);repeat refine kq fun K hK=>?_)
  exact Uq [1] Tryz.results52 @Bp
 have d1 : decide ((s : Int) < (R.length : Int)) = true := by simpa using hlt
 have hB0 := UN (Ev := Ev) hlt
 have hB1 := Su (Ev := Ev) hlt
 have hBl := St (Ev := Ev) hs
 have hpl := fun k => NB hlo (Ev := Ev) hlt k
 unfold Xs at hB1
 generalize Y0 R Ev s = B at *
 (refine Wf (an @A4 @d1) ?_;(repeat clear hK K);repeat refine kq fun K hK=>?_)
 refine Wl ?_
 (refine We ?_;(repeat clear hK K);repeat refine kq fun K hK=>?_)
 refine A6 (fun i : Nat => { tm := [(1, .b false), (2, .a (.c (.p 0 0))), (5, .a (.c (.t 1 (Aa Ev)))), (6, .a (.c (.s 1 R.length))), (7, .i s), (8, .i i)], hp := [.r ⟨25, 1, false, [.t 1 (Ai R)]⟩, .r ⟨41, 1, true, Ay (B.set s (Xr R Ev s i))⟩], n := 70, pin := 0 }) (fun i => i <= Ev.length) (fun i => Ev.length - i) 0 ?_ ?_ ?_
 ·omega
 ·have e1 : Xr R Ev s 0 = [] := by simp [Xr]
  rw [e1, hB0]
  exact Wo
 rintro i hi K hK
 by_cases hli : i < Ev.length
 rotate_left
 ·have d2 : decide ((i : Int) < (Ev.length : Int)) = false := by simpa using hli
  have hie : i = Ev.length := by omega
  rw [hie, hB1]
  rw [hie] at d2
  (refine Wf (an @Yi @d2) ?_;(repeat clear hK K);repeat refine kq fun K hK=>?_)
  refine Wm ?_
  (refine Wi ?_;repeat clear hK K)
  (refine We ?_;(repeat clear hK K);repeat refine kq fun K hK=>?_)
  refine Wn ?_
  refine hK _ (s + 1) (by omega) (by omega) ?_
  exact Wo
 have d2 : decide ((i : Int) < (Ev.length : Int)) = true := by simpa using hli
 have ge := Aj (gE1 hli)
 have hee := hE2 _ (gE6 hli)
 have hsu := KR (R := R) (s := s) hli
 have hP := hpl i (by omega)
 have hPb : i * R.length <= 1026 * 100 := Nat.mul_le_mul (by omega) hn
 generalize Ev[i] = e at *
 have hdl := (NA hlo (e := e) hlt).1
 have hsaE : Xq R s e = (Xp R s e).map fun u => (e, u) := rfl
 (refine Wf (an @Yi @d2) ?_;(repeat clear hK K);repeat refine kq fun K hK=>?_)
 refine Wl ?_
 (refine We ?_;(repeat clear hK K);repeat refine kq fun K hK=>?_)
 (refine Ao 6 [(0, 1), (1, 0), (2, 0), (3, 0), (4, 0), (5, 1), (6, 2), (7, 0)] (by kernel_rfl) (by kernel_rfl) (by intro c st h; simp [Ae, AJ, VD] at h) ?_)
 (refine Wb (an @Yi @ge) ?_; repeat clear hK K)
 (refine T1 (RL R s e hv hlt (by omega) (by omega) (by omega) hr) ?_; intro K1 hK1)
 rintro _ _ ⟨W, hW, rfl, rfl⟩
 have hLL : W = Xp R s e := Nz hW (QI R s e)
 subst hLL
 (refine Wk ?_; clear hK1 K1)
 (refine Wa ?_; repeat clear hK K)
 (refine We ?_;(repeat clear hK K);repeat refine kq fun K hK=>?_)
 refine Wm ?_
 (refine We ?_;(repeat clear hK K);repeat refine kq fun K hK=>?_)
 generalize Xp R s e = L at *
 (refine We ?_;(repeat clear hK K);repeat refine kq fun K hK=>?_)
 refine A6 (fun k : Nat => { tm := [(1, .b false), (2, .a (.c (.p 0 0))), (5, .a (.c (.t 1 (Aa Ev)))), (6, .a (.c (.s 1 R.length))), (7, .i s), (8, .i i), (9, .a (.c (.t 1 (Aa L)))), (10, .i k)], hp := [.r ⟨25, 1, false, [.t 1 (Ai R)]⟩, .r ⟨41, 1, true, Ay (B.set s (Xr R Ev s i ++ (L.take k).map fun u => (e, u)))⟩], n := 70, pin := 0 }) (fun k => k <= L.length) (fun k => L.length - k) 0 ?_ ?_ ?_
 ·omega
 ·simp only [List.take_zero, List.map_nil, List.append_nil]
  exact Wo
 rintro k hk K hK
 by_cases hlk : k < L.length
 rotate_left
 ·have d3 : decide ((k : Int) < (L.length : Int)) = false := by simpa using hlk
  have htk : L.take k = L := gE7 (by omega)
  rw [htk, <- hsaE, <- hsu]
  (refine Wf (an @Yi @d3) ?_;(repeat clear hK K);repeat refine kq fun K hK=>?_)
  refine Wm ?_
  (refine Wi ?_;repeat clear hK K)
  (refine We ?_;(repeat clear hK K);repeat refine kq fun K hK=>?_)
  refine Wn ?_
  refine hK _ (i + 1) (by omega) (by omega) ?_
  exact Wo
 have d3 : decide ((k : Int) < (L.length : Int)) = true := by simpa using hlk
 have gl := Aj (gE1 hlk)
 have hsn : Xr R Ev s i ++ (L.take (k + 1)).map (fun u => (e, u)) = (Xr R Ev s i ++ (L.take k).map fun u => (e, u)) ++ [(e, L[k])] := by
  rw [gE8 hlk, List.map_append, List.append_assoc]; rfl
 have hol : (Xr R Ev s i ++ (L.take k).map fun u => (e, u)).length <= 200000 := by simp; omega
 generalize Xr R Ev s i ++ (L.take k).map (fun u => (e, u)) = oc at *
 have hgo : (B.set s oc)[s]? = some oc := gEc (by omega)
 have hsl : (B.set s oc).length = R.length := by simp [hBl]
 (refine Wf (an @Yi @d3) ?_;(repeat clear hK K);repeat refine kq fun K hK=>?_)
 refine Wl ?_
 (refine We ?_;(repeat clear hK K);repeat refine kq fun K hK=>?_)
 (refine AD [] (.m 0 0 0 (.m 1 0 0 (.m 2 0 0 (.m 3 0 0 (.m 4 0 0 (.m 5 1 16 (.m 6 0 0 (.m 7 0 0 (.m 8 0 0 (.m 9 1 15 (.m 10 0 0 (.m 11 0 0 (.m 12 0 0 (.m 13 1 15 (.m 14 0 0 (.a 15 (.a 16 (.m 17 0 0 (.a 18 .e))))))))))))))))))) (by kernel_rfl) (by kernel_rfl) (by intro c st h; simp [Ae, AJ, VD] at h) ?_)
 (refine Wh (an @AB (an (Bu hgo) (an @hsl (an @Yi (an @ge @gl))))) ?_; repeat clear hK K)
 (refine W4 rfl rfl ?_; intro K1 hK1; refine BF rfl ?_; simp only [go_sem]; (first | refine hK1 _ ?_ | refine AE (hK1 _ ?_)); clear hK1 K1)
 (refine EY rfl rfl rfl ?_; intro K1 hK1; refine CF rfl rfl rfl rfl (by first | rfl | simp only [CM, List.getD_cons_zero, List.getD_cons_succ, hne, List.isEmpty_cons, Bool.not_false, Bool.true_and, Bool.and_true, Bool.and_self]) rfl ?_; simp only [go_sem, Co, A3, Al, Br, Bu hgo]; (first | refine hK1 _ ?_ | refine AE (hK1 _ ?_)); clear hK1 K1)
 (refine Wh (an @AB @hsl) ?_; repeat clear hK K)
 (refine W5 rfl rfl rfl rfl ?_; intro K1 hK1; refine B4 rfl ?_; simp only [go_sem, AB, List.length_set, CU, hsl]; (first | refine hK1 _ ?_ | refine AE (hK1 _ ?_)); clear hK1 K1)
 refine Cg ⟨by simp, by simp, ?_⟩
 (try simp only [Ae, AJ])
 refine hK _ ?_
 clear hK K
 have hj6 : ((Ay (B.set s oc)).set s (C.s 3 (oc.length + 1)))[s]? = some (.s 3 (oc.length + 1)) := by rw [gEc (by rw [AB]; omega)]
 have hset6 : ((Ay (B.set s oc)).set s (C.s 3 (oc.length + 1))).set s (.o (2, 40) (At (oc ++ [(e, L[k])]))) = Ay (B.set s (oc ++ [(e, L[k])])) := by rw [CU, CB, List.set_set]
 refine Av (AR (r := ⟨40, 2, true, As (oc ++ [(e, L[k])])⟩) (ri := ⟨41, 1, true, (Ay (B.set s oc)).set s (C.s 3 (oc.length + 1))⟩) (ts := At (oc ++ [(e, L[k])])) 1 s 3 (oc.length + 1) (by decide) rfl hj6 rfl rfl (show 0 < 2 by omega) (by rw [Ah]; simp) (DA _)) ?_
 simp only [hset6, go_sem]
 (refine We ?_;(repeat clear hK K);repeat refine kq fun K hK=>?_)
 refine Wn ?_
 refine hK _ (k + 1) (by omega) (by omega) ?_
 refine Le.trans (A8 [0, 1] rfl rfl) ?_
 (try simp only [List.set_nil, List.take_nil, List.take_zero, List.map_append, go_sem])
 (try simp only [Bv])
 rw [hsn]
 exact Wo
theorem Sw (R : List (List Ar)) (hv : BL R = true) (hn : R.length <= 100) (hr : ∀ r ∈ R, r.length <= 1000000) : FC Tryz.prog 52 [Bh R, .b false] [] (fun r o => o = [] /\ r = .a (.c (.t 1 (Ai (BI R))))) :=
 (Sv R hv hn hr).frz (Ee _) (by omega) (by rw [A4, (Gt hv hn).1, Nat.mul_one])
theorem Yu {P : Program} {o : Oper} {st : ST} {K : ST -> Prop} {t yt : TypeId} {x y : Operand} {a b : Bool} (hu : P.underlying t = some .bool) (hd : Vu o st.n = true) (ho : o.op = .binOp .eql t x y yt) (hx : st.ev x = .b a) (hy : st.ev y = .b b)
  (h : K (st.put o.dst (.b (a == b)))) : Stp P o st K := by
 refine FY (v := .b (a == b)) hd (fun g w ρ hr hR => ?_) h
 have e1 := hR x
 have e2 := hR y
 rw [hx] at e1
 rw [hy] at e2
 have e1 : ρ x = .bool a := e1
 have e2 : ρ y = .bool b := e2
 refine ⟨.bool (a == b), ?_, rfl⟩
 obtain ⟨dst, op, ty, pos, af, gd⟩ := o
 simp only at ho
 subst ho
 simp only [execOp, e1, e2]
 simp [eqGuard, binOp, Ra hu]
theorem O5 {P : Program} {o : Oper} {st : ST} {K : ST -> Prop} {t yt : TypeId} {x y : Operand} {a b : Bool} (hu : P.underlying t = some .bool) (hd : Vu o st.n = true) (ho : o.op = .binOp .neq t x y yt) (hx : st.ev x = .b a) (hy : st.ev y = .b b)
  (h : K (st.put o.dst (.b (!(a == b))))) : Stp P o st K := by
 refine FY (v := .b (!(a == b))) hd (fun g w ρ hr hR => ?_) h
 have e1 := hR x
 have e2 := hR y
 rw [hx] at e1
 rw [hy] at e2
 have e1 : ρ x = .bool a := e1
 have e2 : ρ y = .bool b := e2
 refine ⟨.bool (!(a == b)), ?_, rfl⟩
 obtain ⟨dst, op, ty, pos, af, gd⟩ := o
 simp only at ho
 subst ho
 simp only [execOp, e1, e2]
 simp [eqGuard, binOp, Ra hu]
theorem Sx (xs : List (List Int)) (n : Nat) : (Cz xs).take n = Cz (xs.take n) := by simp [Cz, List.map_take]
theorem Sy (xs : List (List Int)) (x : List Int) : Cz xs ++ [.t 1 (Aa x)] = Cz (xs ++ [x]) := by simp [Cz]
theorem O6 (S : List (List Ar)) (c : List Int) (hn : S.length <= 1000000) (hr : ∀ r ∈ S, r.length <= 1000000) (hc : c.length = S.length) (hb : ∀ r ∈ S, ∀ a ∈ r, 0 <= a.2 /\ a.2 < (S.length : Int)) : FC Tryz.prog 74 [.a (.c (.t 1 (Ai S))), Aq c] [] (fun r o => o = [] /\ r = .a (.c (.t 1 (Aa (Wz S c))))) :=
 (Q6 S c hn hr hc hb).frz (Gd _) (by omega) (by rw [Yi, (MP S c).len, Nat.mul_one])
def Y1 (S : List (List Ar)) (c : List Int) (H : List (List Int)) : Prop := ∃ k, H.length = k + 1 /\ H[k]? = some (WB S c k) /\ Nrm S.length (WB S c k) /\ k <= S.length /\ Wz S (WB S c k) = WB S c k
set_option maxHeartbeats 2000000 in
theorem O7 (S : List (List Ar)) (c : List Int) (hn : S.length <= 1000000) (hr : ∀ r ∈ S, r.length <= 1000000) (hc : Nrm S.length c) (hb : ∀ r ∈ S, ∀ a ∈ r, 0 <= a.2 /\ a.2 < (S.length : Int)) : FC Tryz.prog 51 [.a (.c (.t 1 (Ai S))), Aq c] [] (fun r o => ∃ H, Y1 S c H /\ r = .a (.c (.s 0 H.length)) /\ o = [.r ⟨22, 1, true, Cz H⟩]) := by
 refine A9 Tryz.func51 rfl (by rw [Tryz.ntmps51]; simp) ?_
 rw [Tryz.ntmps51]
 simp only [Bz, Aq]
 (refine We ?_;(repeat clear hK K);repeat refine kq fun K hK=>?_)
 refine A6 (fun x : Nat × List (List Int) => { tm := [(0, .a (.c (.t 1 (Ai S)))), (5, .a (.c (.s 0 x.2.length)))], hp := [.r ⟨22, 1, true, Cz x.2⟩], n := 27, pin := 0 }) (fun x => x.2.length = x.1 + 1 /\ x.2[x.1]? = some (WB S c x.1) /\ Nrm S.length (WB S c x.1) /\ x.1 <= F3 S.length (WB S c x.1)) (fun x => S.length + 1 - F3 S.length (WB S c x.1)) (0, [c]) ?_ ?_ ?_
 ·exact ⟨rfl, rfl, hc, Nat.zero_le _⟩
 ·have e0 : [C.t 1 (Aa c)] = Cz [c] := rfl
  simp only [e0, List.length_cons, List.length_nil]
  exact Wo
 rintro ⟨k, H⟩ ⟨hl, hg, hN, hk⟩ K hK
 simp only at hl hg hN hk ⊢
 have hcn := Kf S.length (WB S c k)
 have hit : WB S c (k + 1) = Wz S (WB S c k) := rfl
 have hnl := Tt hN
 have hnn := MP S (WB S c k)
 have hNl := hN.len
 have e1 : ((H.length : Int) - 1) = (k : Int) := by omega
 have gl : (Cz H)[k]? = some (.t 1 (Aa (WB S c k))) := N0 hg
 have hsp := O6 S (WB S c k) hn hr hNl hb
 generalize hd : WB S c k = d at *
 (refine Wf (an @e1 (an @Iv @gl)) ?_;(repeat clear hK K);repeat refine kq fun K hK=>?_)
 (refine Wj hsp ?_; intro K1 hK1)
 rintro _ _ ⟨rfl, rfl⟩
 (refine Wk ?_; clear hK1 K1)
 (refine We ?_;(repeat clear hK K);repeat refine kq fun K hK=>?_)
 (refine Wj (DX d (Wz S d) (by omega) (by have := hnn.len; omega)) ?_; intro K1 hK1)
 rintro _ _ ⟨rfl, rfl⟩
 (refine Wk ?_; clear hK1 K1)
 by_cases he : d = Wz S d
 ·have d1 : decide (d = Wz S d) = true := by simpa using he
  rw [d1]
  (refine We ?_;(repeat clear hK K);repeat refine kq fun K hK=>?_)
  refine Wl ?_
  (refine We ?_;(repeat clear hK K);repeat refine kq fun K hK=>?_)
  refine Wq [0] Tryz.results51 @Iw ?_
  exact ⟨H, ⟨k, hl, by rw [hd]; exact hg, by rw [hd]; exact hN, by omega, by rw [hd]; exact he.symm⟩, rfl, rfl⟩
 have d1 : decide (d = Wz S d) = false := by simpa using he
 rw [d1]
 have hlt := hnl (Ne.symm he)
 have hnc := Kf S.length (Wz S d)
 (refine We ?_;(repeat clear hK K);repeat refine kq fun K hK=>?_)
 refine Wm ?_
 (refine Wf (an @Sx (an @Sy (an @BQ (an @Iv @List.take_length.{0})))) ?_;(repeat clear hK K);repeat refine kq fun K hK=>?_)
 refine Wn ?_
 refine hK _ (k + 1, H ++ [Wz S d]) ⟨by simp [hl], ?_, ?_, ?_⟩ ?_ ?_
 ·simp only
  rw [hit, gEb (by omega), hl, Nat.sub_self]; rfl
 ·simp only; rw [hit]; exact hnn
 ·simp only; rw [hit]; omega
 ·simp only; rw [hit]; omega
 refine Le.trans (A8 [2] rfl rfl) ?_
 (try simp only [List.set_nil, List.take_nil, List.take_zero, List.map_append, go_sem])
 (try simp only [Iw])
 simp only [List.length_append, List.length_singleton]
 exact Wo
theorem LV (S : List (List Ar)) (c : List Int) (hn : S.length <= 1000000) (hr : ∀ r ∈ S, r.length <= 1000000) (hc : Nrm S.length c) (hb : ∀ r ∈ S, ∀ a ∈ r, 0 <= a.2 /\ a.2 < (S.length : Int)) : FC Tryz.prog 51 [.a (.c (.t 1 (Ai S))), Aq c] [] (fun r o => ∃ H, Y1 S c H /\ o = [] /\ r = .a (.c (.t 1 (Cw H)))) :=
 (O7 S c hn hr hc hb).frzP (fun H => PF H) (by omega) (fun H _ => by rw [BQ, Nat.mul_one])
def Y2 (B : List Bool) (n s : Nat) : List Int := X7 B s ++ List.replicate (n - s) 0
theorem Sz {B : List Bool} {n s : Nat} (h : s <= n) : (Y2 B n s).length = n := by simp [Y2, Fb]; omega
theorem L8 {B : List Bool} {n s : Nat} (h : s < n) : (Y2 B n s).set s (X6 B s) = Y2 B n (s + 1) := by
 obtain ⟨q, hq⟩ : ∃ q, n - s = q + 1 := ⟨n - s - 1, by omega⟩
 have hq2 : n - (s + 1) = q := by omega
 unfold Y2
 rw [hq, hq2, List.replicate_succ, List.set_append_right _ _ (by rw [Fb]; omega), Fb, Nat.sub_self, List.set_cons_zero]
 simp [X7, List.range_succ]
theorem Q8 {B : List Bool} {n s : Nat} (h : s < n) (h0 : X6 B s = 0) : Y2 B n s = Y2 B n (s + 1) := by
 rw [<- L8 h, h0]
 obtain ⟨q, hq⟩ : ∃ q, n - s = q + 1 := ⟨n - s - 1, by omega⟩
 unfold Y2
 rw [hq, List.replicate_succ, List.set_append_right _ _ (by rw [Fb]; omega), Fb, Nat.sub_self, List.set_cons_zero]
def WkC (R : List (List Ar)) (c : List Int) : Prop := ∃ B, DvL R B /\ FxS (BI R) (X7 B R.length) c
set_option maxHeartbeats 2000000 in
theorem SA (R : List (List Ar)) (hv : BL R = true) (hn : R.length <= 100) (hr : ∀ r ∈ R, r.length <= 1000000) : FC Tryz.prog 30 [Bh R, .b false] [] (fun r o => ∃ c, WkC R c /\ Nrm R.length c /\ o = [] /\ r = Aq c) := by
 refine A9 Tryz.func30 rfl (by rw [Tryz.ntmps30]; simp) ?_
 rw [Tryz.ntmps30]
 simp only [Bz, Bh]
 have hlo : BK R = true := gEg (gE4 hv).1
 have h1 : 1 <= R.length := (gE4 hlo).1
 (refine We ?_;(repeat clear hK K);repeat refine kq fun K hK=>?_)
 (refine Wj (PI R hv (by omega) hr) ?_; intro K1 hK1)
 rintro _ _ ⟨B, hB, rfl, rfl⟩
 (refine Wk ?_; clear hK1 K1)
 have hBl := hB.1
 have hB2 : ∀ s, s < R.length -> B[s]? = some (B.getD s false) := fun s hs => by rw [gE2, gE1 (by omega)]; rfl
 (refine Wf @A4 ?_;(repeat clear hK K);repeat refine kq fun K hK=>?_)
 have e0 : List.replicate R.length (C.v (.int .i64 0)) = A7 (Y2 B R.length 0) := by simp [A7, Y2, X7]
 rw [e0]
 refine A6 (fun s : Nat => { tm := [(1, .b false), (2, .a (.c (.p 0 0))), (5, .a (.c (.t 1 (Xl B)))), (6, .a (.c (.s 1 R.length))), (7, .i s)], hp := [.r ⟨25, 1, false, [.t 1 (Ai R)]⟩, .r ⟨3, 1, true, A7 (Y2 B R.length s)⟩], n := 43, pin := 0 }) (fun s => s <= R.length) (fun s => R.length - s) 0 ?_ ?_ ?_
 ·omega
 ·exact Wo
 rintro s hs K hK
 by_cases hlt : s < R.length
 rotate_left
 ·have d1 : decide ((s : Int) < (R.length : Int)) = false := by simpa using hlt
  have hse : s = R.length := by omega
  have hend : Y2 B R.length R.length = X7 B R.length := by simp [Y2]
  rw [hse] at d1
  rw [hse, hend]
  (refine Wf @d1 ?_;(repeat clear hK K);repeat refine kq fun K hK=>?_)
  refine Wm ?_
  (refine Wi ?_;repeat clear hK K)
  have hcl := Fb B R.length
  have hcn := Jq B h1
  have htk : (Aa (X7 B R.length)).take R.length = Aa (X7 B R.length) := gE7 (by rw [Yi]; omega)
  have hif : (if R.length <= (Aa (X7 B R.length)).length then C.t 1 (Aa (X7 B R.length)) else C.u) = C.t 1 (Aa (X7 B R.length)) := if_pos (by rw [Yi]; omega)
  (refine Av (BA (r := ⟨3, 1, true, A7 (X7 B R.length)⟩) 1 (Aa (X7 B R.length)) rfl (Gd _) (show 0 < (1 : Nat) by omega)) ?_; simp only [ST.frz, A0.frz, AV.frz, C.frz, Nat.le_refl, List.set_cons_zero, List.set_cons_succ, go_sem, htk, hif])
  obtain ⟨hSl, hSr⟩ := Gt hv hn
  (refine We ?_;(repeat clear hK K);repeat refine kq fun K hK=>?_)
  (refine Wj (Sw R hv hn hr) ?_; intro K1 hK1)
  rintro _ _ ⟨rfl, rfl⟩
  (refine Wk ?_; clear hK1 K1)
  (refine We ?_;(repeat clear hK K);repeat refine kq fun K hK=>?_)
  (refine Wj (LV (BI R) (X7 B R.length) (by omega) (fun r h => (hSr r h).1) (by rw [hSl]; exact hcn) (fun r h a ha => by rw [hSl]; exact (hSr r h).2 a ha)) ?_; intro K1 hK1)
  rintro _ _ ⟨H, ⟨k, hH1, hH2, hH3, hH4, hH5⟩, rfl, rfl⟩
  (refine Wk ?_; clear hK1 K1)
  have e1 : ((H.length : Int) - 1) = (k : Int) := by omega
  have gl := Dy hH2
  (refine Wf (an @BQ (an @e1 @gl)) ?_;(repeat clear hK K);repeat refine kq fun K hK=>?_)
  refine Wp [] Tryz.results30 ?_
  exact ⟨_, ⟨B, hB, k, rfl, hH5⟩, by have h := hH3; rw [hSl] at h; exact h, rfl⟩
 have d1 : decide ((s : Int) < (R.length : Int)) = true := by simpa using hlt
 have gs := Ff (hB2 s hlt)
 have g0 := Ff (hB2 0 (by omega))
 have hl := Sz (B := B) hs
 have hst := L8 (B := B) hlt
 have hz := Q8 (B := B) hlt
 by_cases hq : B.getD s false = B.getD 0 false
 ·have d2 : (B.getD s false == B.getD 0 false) = true := by rw [hq]; simp
  have h0 : X6 B s = 0 := by unfold X6; rw [if_pos hq]
  (refine Wf @d1 ?_;(repeat clear hK K);repeat refine kq fun K hK=>?_)
  refine Wl ?_
  (refine We ?_;(repeat clear hK K);repeat refine kq fun K hK=>?_)
  (refine Ao 7 [(0, 0), (1, 0), (2, 0), (3, 1), (4, 0), (5, 0), (6, 1), (7, 2)] (by kernel_rfl) (by kernel_rfl) (by intro c st h; simp [Ae, AJ, VD] at h) ?_)
  (refine Wb (an @Bw (an @hBl (an @gs (an @g0 @Int.toNat_zero)))) ?_; repeat clear hK K)
  (refine VM rfl rfl rfl ?_; intro K1 hK1; refine O5 (a := B.getD s false) (b := B.getD 0 false) Tryz.underlying4 rfl rfl (by simp only [go_sem]) (by simp only [go_sem]) ?_; simp only [go_sem, d2, Bool.not_true, Bool.not_false]; refine hK1 _ ?_; clear hK1 K1)
  (refine Wa ?_; repeat clear hK K)
  refine Wm ?_
  (refine We ?_;(repeat clear hK K);repeat refine kq fun K hK=>?_)
  refine Wn ?_
  refine hK _ (s + 1) (by omega) (by omega) ?_
  rw [hz h0]
  exact Wo
 have d2 : (B.getD s false == B.getD 0 false) = false := by simpa using hq
 have h0 : X6 B s = 1 := by unfold X6; rw [if_neg hq]
 rw [h0] at hst
 (refine Wf @d1 ?_;(repeat clear hK K);repeat refine kq fun K hK=>?_)
 refine Wl ?_
 (refine We ?_;(repeat clear hK K);repeat refine kq fun K hK=>?_)
 (refine Ao 7 [(0, 0), (1, 0), (2, 0), (3, 1), (4, 0), (5, 0), (6, 1), (7, 2)] (by kernel_rfl) (by kernel_rfl) (by intro c st h; simp [Ae, AJ, VD] at h) ?_)
 (refine Wb (an @Bw (an @hBl (an @gs (an @g0 @Int.toNat_zero)))) ?_; repeat clear hK K)
 (refine VM rfl rfl rfl ?_; intro K1 hK1; refine O5 (a := B.getD s false) (b := B.getD 0 false) Tryz.underlying4 rfl rfl (by simp only [go_sem]) (by simp only [go_sem]) ?_; simp only [go_sem, d2, Bool.not_true, Bool.not_false]; refine hK1 _ ?_; clear hK1 K1)
 (refine Wa ?_; repeat clear hK K)
 refine Wl ?_
 (refine Cr (an @A5 (an @hl (an @B3 @hst))) ?_;(repeat clear hK K);repeat refine kq fun K hK=>?_)
 refine Wn ?_
 refine hK _ (s + 1) (by omega) (by omega) ?_
 exact Wo
end Go.Proofs.YthnkailnoobdoaaGreatDoor
