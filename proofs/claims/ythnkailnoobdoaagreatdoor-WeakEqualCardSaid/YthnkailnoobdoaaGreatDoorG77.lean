/- Lemmas. -/
import Derived.Test.YthnkailnoobdoaaGreatDoorZk
import Derived.Test.YthnkailnoobdoaaGreatDoorOd1
import Derived.Test.YthnkailnoobdoaaGreatDoorG67
import Derived.Test.YthnkailnoobdoaaGreatDoorMD
namespace Go.Proofs.YthnkailnoobdoaaGreatDoor
set_option linter.unusedVariables false
set_option linter.unusedSimpArgs false
open Go.RowKit
set_option maxRecDepth 100000
attribute [local go_sem] lga C.pl C.one

def NR (f : Nat -> Nat) (E : List Ed) (k : Nat) : List Nat := (List.range k).filter fun s => decide (f s = s) && Xb E s == 0
theorem NS (f : Nat -> Nat) (E : List Ed) (k : Nat) : NR f E (k + 1) = NR f E k ++ if f k = k /\ Xb E k = 0 then [k] else [] := by
 unfold NR
 rw [List.range_succ, List.filter_append]
 by_cases h1 : f k = k <;> by_cases h2 : Xb E k = 0 <;> simp [h1, h2]
theorem PV (f : Nat -> Nat) (E : List Ed) (k : Nat) : (NR f E k).length <= k := by
 have := List.length_filter_le (fun s => decide (f s = s) && Xb E s == 0) (List.range k)
 rwa [List.length_range] at this
theorem Kh.start {E : List Ed} {n : Nat} {f : Nat -> Nat} : Kh E n f 0 0 (NR f E n) (Xc n E) := by
 refine ⟨Gp _ _, fun c hc => ?_, (List.nodup_range).filter _, fun c hc => ?_, fun c hc hf => ?_, fun j c hj e he h1 => ?_⟩
 ·rw [HA hc]; simp [RD]
 ·have := List.mem_filter.1 hc
  simp only [List.mem_range, Bool.and_eq_true, decide_eq_true_eq] at this
  exact ⟨this.1, this.2.1⟩
 ·rw [HA hc]
  unfold NR
  rw [List.mem_filter]
  simp only [List.mem_range, Bool.and_eq_true, decide_eq_true_eq, beq_iff_eq]
  constructor
  ·rintro ⟨_, _, h⟩; rw [h]; rfl
  intro h; injection h with h; exact ⟨hc, hf, by omega⟩
 have hin := gE9 hj
 have h2 := (List.mem_filter.1 hin).2
 simp only [Bool.and_eq_true, decide_eq_true_eq, beq_iff_eq] at h2
 have h3 : Xb E c = 0 := h2.2
 unfold Xb at h3
 rw [List.countP_eq_zero] at h3
 exact absurd (by simpa using h1) (h3 e he)
set_option maxHeartbeats 8000000 in
theorem U1 (R : List (List Ar)) (D : List Int) (f rk : Nat -> Nat) (hlo : ∀ r ∈ R, ∀ a ∈ r, 0 <= a.2 /\ a.2 < (R.length : Int)) (htot : AN R <= 1000000) (hDl : D.length = R.length) (hD : ∀ v, v < R.length -> D[v]? = some (f v : Int) /\ f v < R.length) (hE : ∀ e ∈ Xa f R R.length, (e.1 < R.length /\ f e.1 = e.1) /\ e.2 < R.length /\ f e.2 = e.2 /\ rk e.2 < rk e.1) (hn : R.length <= 1000000) (hr : ∀ r ∈ R, r.length <= 1000000) : FC Tryz.prog 45 [Bh R, Aq D] [] (fun r o => ∃ Q, HB (Xa f R R.length) R.length f Q /\ r = .a (.c (.s 0 Q.length)) /\ o = [Aw (Q.map Int.ofNat)]) := by
 refine A9 Tryz.func45 rfl (by rw [Tryz.ntmps45]; simp) ?_
 rw [Tryz.ntmps45]
 simp only [Bz, Bh, Aq]
 (refine Wf @A4 ?_;(repeat clear hK K);repeat refine kq fun K hK=>?_)
 have e0 : List.replicate R.length (C.v (.int .i64 0)) = A7 (Xc R.length (Xa f R 0)) := by
  have : Xc R.length (Xa f R 0) = List.replicate R.length 0 := List.ext_getElem (by simp [Xc]) fun i h1 h2 => by simp [Xc, Xa, Xb]
  rw [this]; simp [A7]
 have e1 : List.replicate R.length (C.o (1, 3) []) = B9 (En R.length (Xa f R 0)) := by
  have : En R.length (Xa f R 0) = List.replicate R.length [] := List.ext_getElem (by simp [En]) fun i h1 h2 => by simp [En, Xa, Xd]
  rw [this]; simp [B9, Aa]
 rw [e0, e1]
 refine A6 (fun k : Nat => { tm := [(1, .a (.c (.t 1 (Aa D)))), (2, .a (.c (.p 0 0))), (5, .a (.c (.s 1 R.length))), (6, .a (.c (.s 2 R.length))), (28, .a (.c (.t 1 (Ai R)))), (29, .i R.length), (30, .i k)], hp := [.r ⟨25, 1, false, [.t 1 (Ai R)]⟩, .r ⟨3, 1, true, A7 (Xc R.length (Xa f R k))⟩, .r ⟨22, 1, true, B9 (En R.length (Xa f R k))⟩], n := 133, pin := 0 }) (fun k => k <= R.length) (fun k => R.length - k) 0 ?_ ?_ ?_
 ·omega
 ·exact Wo
 rintro k hk K hK
 by_cases hlt : k < R.length
 ·have d1 : decide ((k : Int) < (R.length : Int)) = true := by simpa using hlt
  have hgR := gE1 hlt
  have hgd : R.getD k [] = R[k] := by rw [gE2, hgR]; rfl
  have hrl := hr _ (gE6 hlt)
  have hbs := hlo _ (gE6 hlt)
  have hel := Nl f R k hk
  have hto := BX hlt
  have hto2 := Gc R (k + 1)
  have hsu : Xa f R (k + 1) = Xa f R k ++ X9 f k R[k] := by rw [KH, hgd]
  obtain ⟨gDk0, hfk⟩ := hD k hlt
  have gDk := Aj gDk0
  generalize R[k] = row at *
  generalize Xa f R k = E0 at *
  (refine Wf @d1 ?_;(repeat clear hK K);repeat refine kq fun K hK=>?_)
  refine Wl ?_
  (refine Wf (an @A4 (an (Ac hgR) (an @A3 @Al))) ?_;(repeat clear hK K);repeat refine kq fun K hK=>?_)
  refine A6 (fun j : Nat => { tm := [(1, .a (.c (.t 1 (Aa D)))), (2, .a (.c (.p 0 0))), (5, .a (.c (.s 1 R.length))), (6, .a (.c (.s 2 R.length))), (7, .i k), (28, .a (.c (.t 1 (Ai R)))), (29, .i R.length), (30, .i k), (35, .a (.c (.t 2 (At row)))), (36, .i row.length), (37, .i j)], hp := [.r ⟨25, 1, false, [.t 1 (Ai R)]⟩, .r ⟨3, 1, true, A7 (Xc R.length (E0 ++ X9 f k (row.take j)))⟩, .r ⟨22, 1, true, B9 (En R.length (E0 ++ X9 f k (row.take j)))⟩], n := 133, pin := 0 }) (fun j => j <= row.length) (fun j => row.length - j) 0 ?_ ?_ ?_
  ·omega
  ·simp only [List.take_zero, X9, List.filterMap_nil, List.append_nil]
   exact Wo
  rintro j hj K hK
  by_cases hlt2 : j < row.length
  rotate_left
  ·have d2 : decide ((j : Int) < (row.length : Int)) = false := by simpa using hlt2
   have hje : row.take j = row := gE7 (by omega)
   rw [hje, <- hsu]
   (refine Wf @d2 ?_;(repeat clear hK K);repeat refine kq fun K hK=>?_)
   refine Wm ?_
   (refine Wi ?_;repeat clear hK K)
   (refine We ?_;(repeat clear hK K);repeat refine kq fun K hK=>?_)
   refine Wn ?_
   refine hK _ (k + 1) (by omega) (by omega) ?_
   exact Wo
  have d2 : decide ((j : Int) < (row.length : Int)) = true := by simpa using hlt2
  have hat := Be hlt2
  have hb := hbs _ (gE6 hlt2)
  have hsn := Pu f k (row.take j) row[j]
  rw [<- gE8 hlt2] at hsn
  have hrl2 := List.length_filterMap_le (X8 f k) (row.take j)
  have hrl3 : (X9 f k (row.take j)).length <= j := by have := List.length_take_le j row; unfold X9; omega
  generalize row[j] = a at *
  obtain ⟨e, t⟩ := a
  simp only at hat hb
  obtain ⟨tn, rfl⟩ : ∃ tn : Nat, t = (tn : Int) := ⟨t.toNat, by omega⟩
  have htn : tn < R.length := by omega
  obtain ⟨gDt0, hft⟩ := hD tn htn
  have gDt := Aj gDt0
  have hEl : (E0 ++ X9 f k (row.take j)).length <= 1000000 := by rw [List.length_append]; omega
  have hdef : X8 f k (e, (tn : Int)) = if e = 0 /\ f k ≠ f tn then some (f k, f tn) else none := rfl
  have hnx : E0 ++ X9 f k (row.take (j + 1)) = (E0 ++ X9 f k (row.take j)) ++ (X8 f k (e, (tn : Int))).toList := by rw [hsn, List.append_assoc]
  generalize E0 ++ X9 f k (row.take j) = E at *
  have hcl := QD E (f k)
  have hbl := Nn E (f tn)
  have hwl := Gp R.length E
  have hbfl := FK R.length E
  (refine Wf @d2 ?_;(repeat clear hK K);repeat refine kq fun K hK=>?_)
  refine Wl ?_
  (refine Cr (an @hat (an @A3 @Al)) ?_;(repeat clear hK K);repeat refine kq fun K hK=>?_)
  (refine Ao 10 [(0, 0), (1, 0), (2, 0), (3, 1), (4, 0), (5, 0), (6, 1), (7, 0), (8, 1), (9, 0), (10, 2)] (by kernel_rfl) (by kernel_rfl) (by intro c st h; simp [Ae, AJ, VD] at h) ?_)
  (refine Wb (an @Yi (an @hDl (an @gDk @gDt))) ?_; repeat clear hK K)
  by_cases hq : e = 0 /\ f k ≠ f tn
  rotate_left
  ·rw [if_neg hq] at hdef
   rw [hdef] at hnx
   have hnx : E0 ++ X9 f k (row.take (j + 1)) = E := by rw [hnx]; simp
   by_cases he : e = 0
   rotate_left
   ·have d3 : (e == 0) = false := by simpa using he
    (refine Wf @d3 ?_;(repeat clear hK K);repeat refine kq fun K hK=>?_)
    refine Wm ?_
    (refine We ?_;(repeat clear hK K);repeat refine kq fun K hK=>?_)
    refine Wn ?_
    refine hK _ (j + 1) (by omega) (by omega) ?_
    refine Le.trans (A8 [0, 1, 2] rfl rfl) ?_
    (try simp only [List.set_nil, List.take_nil, List.take_zero, List.map_append, go_sem])
    (try simp only [Ak, D7])
    rw [hnx]
    exact Wo
   have d3 : (e == 0) = true := by simpa using he
   have hff : f k = f tn := Decidable.not_not.1 fun h => hq ⟨he, h⟩
   have d4 : ((f k : Int) != (f tn : Int)) = false := by simp [hff]
   (refine Wf (an @d3 @d4) ?_;(repeat clear hK K);repeat refine kq fun K hK=>?_)
   refine Wm ?_
   (refine We ?_;(repeat clear hK K);repeat refine kq fun K hK=>?_)
   refine Wn ?_
   refine hK _ (j + 1) (by omega) (by omega) ?_
   refine Le.trans (A8 [0, 1, 2] rfl rfl) ?_
   (try simp only [List.set_nil, List.take_nil, List.take_zero, List.map_append, go_sem])
   (try simp only [Ak, D7])
   rw [hnx]
   exact Wo
  obtain ⟨he, hff⟩ := hq
  have d3 : (e == 0) = true := by simpa using he
  have d4 : ((f k : Int) != (f tn : Int)) = true := by simp; omega
  rw [if_pos ⟨he, hff⟩] at hdef
  rw [hdef] at hnx
  have hnx : E0 ++ X9 f k (row.take (j + 1)) = E ++ [(f k, f tn)] := hnx
  have gW : (A7 (Xc R.length E))[f k]? = some (.v (.int .i64 (Xb E (f k) : Nat))) := Ax (HA hfk)
  have gB := DV (KI (E := E) hft)
  have hws := Pw (E := E) (t := f tn) hfk
  have hbs2 := Nm (E := E) (c := f k) hft
  have hml : ((Xd E (f tn)).map Int.ofNat).length <= 1000000 := by rw [List.length_map]; omega
  generalize (Xd E (f tn)).map Int.ofNat = oc at *
  (refine Wf (an @d3 @d4) ?_;(repeat clear hK K);repeat refine kq fun K hK=>?_)
  refine Wl ?_
  (refine Cr (an @A5 (an @hwl (an @gW (an @B3 (an @hws (an @Bs (an @gB (an @hbfl (an @CU (an @List.length_set.{0} (an @List.set_cons_zero.{0} (an @List.set_cons_succ.{0} (an @List.take_succ_cons.{0} (an @List.take_zero.{0} (an @List.drop_zero.{0} (an @List.length_take.{0} (an @List.length_drop.{0} (an @List.length_append.{0} (an @Yi (an @Az (an @AZ (an @BC (an @A5 (an @B6 (an @AH (an @Bd (an @AM @AY))))))))))))))))))))))))))) ?_;(repeat clear hK K);repeat refine kq fun K hK=>?_)
  have hj6 : ((B9 (En R.length E)).set (f tn) (C.s 5 (oc.length + 1)))[f tn]? = some (.s 5 (oc.length + 1)) := by rw [gEc (by rw [Bs]; omega)]
  have hset6 : ((B9 (En R.length E)).set (f tn) (C.s 5 (oc.length + 1))).set (f tn) (.o (1, 3) (Aa (oc ++ [(f k : Int)]))) = B9 (En R.length (E ++ [(f k, f tn)])) := by rw [CU, F9, hbs2]
  refine Wn ?_
  refine hK _ (j + 1) (by omega) (by omega) ?_
  refine Le.trans (AR (r := ⟨3, 1, true, A7 (oc ++ [(f k : Int)])⟩) (ri := ⟨22, 1, true, (B9 (En R.length E)).set (f tn) (C.s 5 (oc.length + 1))⟩) (ts := Aa (oc ++ [(f k : Int)])) 2 (f tn) 5 (oc.length + 1) (by decide) rfl hj6 rfl rfl (show 0 < 1 by omega) (by rw [A5]; simp) (Gd _)) ?_
  simp only [hset6, go_sem]
  refine Le.trans (A8 [0, 1, 2] rfl rfl) ?_
  (try simp only [List.set_nil, List.take_nil, List.take_zero, List.map_append, go_sem])
  (try simp only [Ak, D7])
  rw [hnx]
  exact Wo
 have d1 : decide ((k : Int) < (R.length : Int)) = false := by simpa using hlt
 have hke : k = R.length := by omega
 have hel := Nl f R R.length (Nat.le_refl _)
 rw [List.take_length] at hel
 rw [hke] at d1
 rw [hke]
 obtain ⟨E, hEe⟩ : ∃ E, E = Xa f R R.length := ⟨_, rfl⟩
 rw [<- hEe] at hel hE ⊢
 have hwl := Gp R.length E
 have hbfl := FK R.length E
 (refine Wf @d1 ?_;(repeat clear hK K);repeat refine kq fun K hK=>?_)
 refine Wm ?_
 (refine Wi ?_;repeat clear hK K)
 refine Av (CD 2 rfl) ?_
 simp only [Fg, go_sem]
 have htk : (Cw (En R.length E)).take R.length = Cw (En R.length E) := gE7 (by rw [BQ]; omega)
 have hif : (if R.length <= (Cw (En R.length E)).length then C.t 1 (Cw (En R.length E)) else C.u) = C.t 1 (Cw (En R.length E)) := if_pos (by rw [BQ]; omega)
 (refine Av (BA (r := ⟨22, 1, true, Cz (En R.length E)⟩) 2 (Cw (En R.length E)) rfl (PF _) (show 0 < (1 : Nat) by omega)) ?_; simp only [ST.frz, A0.frz, AV.frz, C.frz, Nat.le_refl, List.set_cons_zero, List.set_cons_succ, go_sem, htk, hif])
 (refine Wf (an @Yi @hDl) ?_;(repeat clear hK K);repeat refine kq fun K hK=>?_)
 refine Av (Dt 13 3 1 ?_) ?_
 ·simp only [go_sem]
 refine Av (A8 [1, 3] rfl rfl) ?_
 (try simp only [List.set_nil, List.take_nil, List.take_zero, List.map_append, go_sem])
 (try simp only [Ak])
 refine A6 (fun k : Nat => { tm := [(5, .a (.c (.s 0 R.length))), (6, .a (.c (.t 1 (Cw (En R.length E))))), (13, .a (.c (.s 1 (NR f E k).length))), (76, .a (.c (.t 1 (Aa D)))), (77, .i R.length), (78, .i k)], hp := [.r ⟨3, 1, true, A7 (Xc R.length E)⟩, .r ⟨3, 1, true, A7 ((NR f E k).map Int.ofNat)⟩], n := 133, pin := 0 }) (fun k => k <= R.length) (fun k => R.length - k) 0 ?_ ?_ ?_
 ·omega
 ·simp only [NR, List.range_zero, List.filter_nil, List.map_nil, List.length_nil, A7]
  exact Wo
 clear hk hlt d1 hke
 rintro k hk K hK
 have hql := PV f E k
 have hsu := NS f E k
 by_cases hlt : k < R.length
 ·have d2 : decide ((k : Int) < (R.length : Int)) = true := by simpa using hlt
  obtain ⟨gD0, hfk⟩ := hD k hlt
  have gD := Aj gD0
  have gW : (A7 (Xc R.length E))[f k]? = some (.v (.int .i64 (Xb E (f k) : Nat))) := Ax (HA hfk)
  by_cases h1 : f k = k
  rotate_left
  ·have d3 : ((k : Int) == (f k : Int)) = false := by simp; omega
   rw [if_neg (fun h => h1 h.1), List.append_nil] at hsu
   (refine Wf @d2 ?_;(repeat clear hK K);repeat refine kq fun K hK=>?_)
   refine Wl ?_
   (refine Wf (an @Yi (an @hDl (an @gD @d3))) ?_;(repeat clear hK K);repeat refine kq fun K hK=>?_)
   refine Wm ?_
   (refine We ?_;(repeat clear hK K);repeat refine kq fun K hK=>?_)
   refine Wn ?_
   refine hK _ (k + 1) (by omega) (by omega) ?_
   rw [hsu]
   exact Wo
  have d3 : ((k : Int) == (f k : Int)) = true := by simp [h1]
  by_cases h2 : Xb E (f k) = 0
  rotate_left
  ·have d4 : (((Xb E (f k) : Nat) : Int) == 0) = false := by simp; omega
   rw [if_neg (fun h => h2 (by rw [h.1]; exact h.2)), List.append_nil] at hsu
   (refine Wf @d2 ?_;(repeat clear hK K);repeat refine kq fun K hK=>?_)
   refine Wl ?_
   (refine Wf (an @Yi (an @hDl (an @gD (an @d3 (an @A5 (an @hwl (an @gW @d4))))))) ?_;(repeat clear hK K);repeat refine kq fun K hK=>?_)
   refine Wm ?_
   (refine We ?_;(repeat clear hK K);repeat refine kq fun K hK=>?_)
   refine Wn ?_
   refine hK _ (k + 1) (by omega) (by omega) ?_
   rw [hsu]
   exact Wo
  have d4 : (((Xb E (f k) : Nat) : Int) == 0) = true := by simp [h2]
  rw [if_pos ⟨h1, by rw [<- h1]; exact h2⟩] at hsu
  generalize NR f E k = Q at *
  (refine Wf @d2 ?_;(repeat clear hK K);repeat refine kq fun K hK=>?_)
  refine Wl ?_
  (refine Wf (an @Yi (an @hDl (an @gD (an @d3 (an @A5 (an @hwl (an @gW @d4))))))) ?_;(repeat clear hK K);repeat refine kq fun K hK=>?_)
  refine Wl ?_
  (refine Wf (an @List.length_map.{0, 0} (an @List.set_cons_zero.{0} (an @List.set_cons_succ.{0} (an @List.take_succ_cons.{0} (an @List.take_zero.{0} (an @List.drop_zero.{0} (an @List.length_take.{0} (an @List.length_drop.{0} (an @List.length_append.{0} (an @Yi (an @Az (an @AZ (an @BC (an @A5 (an @B6 (an @AH (an @Bd (an @AM @AY)))))))))))))))))) ?_;(repeat clear hK K);repeat refine kq fun K hK=>?_)
  refine Wn ?_
  refine hK _ (k + 1) (by omega) (by omega) ?_
  refine Le.trans (A8 [0, 3] rfl rfl) ?_
  (try simp only [List.set_nil, List.take_nil, List.take_zero, List.map_append, go_sem])
  (try simp only [Ak])
  have htk2 : (Q.map Int.ofNat).take Q.length = Q.map Int.ofNat := gE7 (by simp)
  rw [hsu]
  simp only [htk2, List.map_append, List.map_cons, List.map_nil, List.length_append, List.length_singleton, h1]
  exact Wo
 have d2 : decide ((k : Int) < (R.length : Int)) = false := by simpa using hlt
 have hke : k = R.length := by omega
 rw [hke] at d2
 rw [hke]
 (refine Wf @d2 ?_;(repeat clear hK K);repeat refine kq fun K hK=>?_)
 refine Wm ?_
 (refine Wi ?_;repeat clear hK K)
 (refine We ?_;(repeat clear hK K);repeat refine kq fun K hK=>?_)
 refine A6 (fun x : Nat × List Nat × List Int => { tm := [(5, .a (.c (.s 0 R.length))), (6, .a (.c (.t 1 (Cw (En R.length E))))), (13, .a (.c (.s 1 x.2.1.length))), (16, .i x.1)], hp := [.r ⟨3, 1, true, A7 x.2.2⟩, .r ⟨3, 1, true, A7 (x.2.1.map Int.ofNat)⟩], n := 133, pin := 0 }) (fun x => x.1 <= x.2.1.length /\ Kh E R.length f x.1 0 x.2.1 x.2.2) (fun x => R.length - x.1) (0, NR f E R.length, Xc R.length E) ?_ ?_ ?_
 ·exact ⟨by simp, Kh.start⟩
 ·exact Wo
 clear hk hlt d2 hke hql hsu
 rintro ⟨i, Q, W⟩ ⟨hi, hK1⟩ K hK
 simp only at hi hK1
 have hQl := hK1.qlen
 have hWl := hK1.len
 by_cases hli : i < Q.length
 rotate_left
 ·have d3 : decide ((i : Int) < (Q.length : Int)) = false := by simpa using hli
  have hie : i = Q.length := by omega
  rw [hie] at hK1
  (refine Wf @d3 ?_;(repeat clear hK K);repeat refine kq fun K hK=>?_)
  refine Wm ?_
  (refine Wi ?_;repeat clear hK K)
  (refine We ?_;(repeat clear hK K);repeat refine kq fun K hK=>?_)
  ((try refine AF ?_); (try simp only [Ae, AJ]); refine Bm (A8 [1] rfl rfl) ?_; (try simp only [List.set_nil, List.take_nil, List.take_zero, List.map_append, go_sem]); ((try refine AF ?_); (try refine Ab ?_); (try simp only [Ae, AJ]); refine BE (by first | exact .inl rfl | exact .inr rfl) rfl ?_; simp only [VE, EO, Em, EU, Tryz.results45, go_sem, true_and, and_true, Ak, Aw]))
  exact ⟨Q, by rw [<- hEe]; exact hK1.done rk (fun e he => (hE e he).2), rfl, rfl⟩
 have d3 : decide ((i : Int) < (Q.length : Int)) = true := by simpa using hli
 have hqg : Q.getD i 0 = Q[i] := by rw [gE2, gE1 hli]; rfl
 have hqn := (hK1.rep _ (gE6 hli)).1
 have gq : (A7 (Q.map Int.ofNat))[i]? = some (.v (.int .i64 ((Q[i] : Nat) : Int))) := Ax (by rw [List.getElem?_map, gE1 hli]; rfl)
 have hqi := gE1 hli
 generalize Q[i] = q at *
 have gB := Dy (KI (E := E) hqn)
 have hbl := Nn E q
 (refine Wf @d3 ?_;(repeat clear hK K);repeat refine kq fun K hK=>?_)
 refine Wl ?_
 (refine Wf (an @A5 (an @List.length_map.{0, 0} (an @gq (an @BQ (an @hbfl (an @gB @Yi)))))) ?_;(repeat clear hK K);repeat refine kq fun K hK=>?_)
 refine A6 (fun x : Nat × List Nat × List Int => { tm := [(5, .a (.c (.s 0 R.length))), (6, .a (.c (.t 1 (Cw (En R.length E))))), (13, .a (.c (.s 1 x.2.1.length))), (16, .i i), (110, .a (.c (.t 1 (Aa ((Xd E q).map Int.ofNat))))), (111, .i (Xd E q).length), (112, .i x.1)], hp := [.r ⟨3, 1, true, A7 x.2.2⟩, .r ⟨3, 1, true, A7 (x.2.1.map Int.ofNat)⟩], n := 133, pin := 0 }) (fun x => x.1 <= (Xd E q).length /\ i < x.2.1.length /\ x.2.1.getD i 0 = q /\ Kh E R.length f i x.1 x.2.1 x.2.2) (fun x => (Xd E q).length - x.1) (0, Q, W) ?_ ?_ ?_
 ·exact ⟨by simp, hli, hqg, hK1⟩
 ·exact Wo
 clear hK1 hQl hWl hi hli d3 gq hqi hqg
 rintro ⟨m, Q, W⟩ ⟨hm, hli, hqg, hK1⟩ K hK
 simp only at hm hli hqg hK1
 have hQl := hK1.qlen
 have hWl := hK1.len
 by_cases hlm : m < (Xd E q).length
 rotate_left
 ·have d4 : decide ((m : Int) < ((Xd E q).length : Int)) = false := by simpa using hlm
  have hnx := hK1.next hli (by rw [hqg]; omega)
  (refine Wf @d4 ?_;(repeat clear hK K);repeat refine kq fun K hK=>?_)
  refine Wm ?_
  (refine Wi ?_;repeat clear hK K)
  (refine We ?_;(repeat clear hK K);repeat refine kq fun K hK=>?_)
  refine Wn ?_
  refine hK _ (i + 1, Q, W) ⟨by simp only; omega, hnx⟩ (by simp only; omega) ?_
  exact Wo
 have d4 : decide ((m : Int) < ((Xd E q).length : Int)) = true := by simpa using hlm
 have hcm : (Xd E (Q.getD i 0))[m]? = some (Xd E q)[m] := by rw [hqg]; exact gE1 hlm
 obtain ⟨hc1, hc2, w, hw, hw1, hw2, hst1, hst2⟩ := hK1.step hli (fun e he => (hE e he).1) hcm
 have gp : (Aa ((Xd E q).map Int.ofNat))[m]? = some (.v (.int .i64 (((Xd E q)[m] : Nat) : Int))) := Aj (by rw [List.getElem?_map, gE1 hlm]; rfl)
 have hcle := QD E (Xd E q)[m]
 generalize (Xd E q)[m] = c at *
 have gW := Ax hw
 have gW2 : (A7 (W.set c (w - 1)))[c]? = some (.v (.int .i64 (w - 1))) := Ax (gEc (by omega))
 have hb1 : w - 1 <= 1000000 := by omega
 have hb0 : 0 <= w - 1 := by omega
 by_cases he : w = 1
 rotate_left
 ·have d5 : ((w - 1) == 0) = false := by simp; omega
  have hnx := hst1 he
  (refine Wf @d4 ?_;(repeat clear hK K);repeat refine kq fun K hK=>?_)
  refine Wl ?_
  (refine Cr (an @gp (an @Yi (an @List.length_map.{0, 0} (an @A5 (an @hWl (an @gW (an @B3 (an @List.length_set.{0} (an @gW2 @d5))))))))) ?_;(repeat clear hK K);repeat refine kq fun K hK=>?_)
  refine Wm ?_
  (refine We ?_;(repeat clear hK K);repeat refine kq fun K hK=>?_)
  refine Wn ?_
  refine hK _ (m + 1, Q, W.set c (w - 1)) ⟨by simp only; omega, hli, hqg, hnx⟩ (by simp only; omega) ?_
  exact Wo
 have d5 : ((w - 1) == 0) = true := by simp [he]
 have hnx := hst2 he
 (refine Wf @d4 ?_;(repeat clear hK K);repeat refine kq fun K hK=>?_)
 refine Wl ?_
 (refine Cr (an @gp (an @Yi (an @List.length_map.{0, 0} (an @A5 (an @hWl (an @gW (an @B3 (an @List.length_set.{0} (an @gW2 @d5))))))))) ?_;(repeat clear hK K);repeat refine kq fun K hK=>?_)
 refine Wl ?_
 (refine Wf (an @List.length_map.{0, 0} (an @List.set_cons_zero.{0} (an @List.set_cons_succ.{0} (an @List.take_succ_cons.{0} (an @List.take_zero.{0} (an @List.drop_zero.{0} (an @List.length_take.{0} (an @List.length_drop.{0} (an @List.length_append.{0} (an @Yi (an @Az (an @AZ (an @BC (an @A5 (an @B6 (an @AH (an @Bd (an @AM @AY)))))))))))))))))) ?_;(repeat clear hK K);repeat refine kq fun K hK=>?_)
 refine Wn ?_
 refine hK _ (m + 1, Q ++ [c], W.set c (w - 1)) ⟨by simp only; omega, by simp only [List.length_append, List.length_singleton]; omega, ?_, hnx⟩ (by simp only; omega) ?_
 ·simp only
  rw [gE2, gEa hli, <- gE2]
  exact hqg
 refine Le.trans (A8 [0, 3] rfl rfl) ?_
 (try simp only [List.set_nil, List.take_nil, List.take_zero, List.map_append, go_sem])
 (try simp only [Ak])
 have htk2 : (Q.map Int.ofNat).take Q.length = Q.map Int.ofNat := gE7 (by simp)
 simp only [htk2, List.map_append, List.map_cons, List.map_nil, List.length_append, List.length_singleton]
 exact Wo
def Gh.inB (g : Gh) (r0 : Row) : Gh := ⟨g.γ, g.κ, Ow [.r { r0 with cells := r0.cells.map VH }] g⟩
theorem NT {g : Gh} {r0 : Row} (i j : Nat) : ¬ Lv [.r { r0 with cells := r0.cells.map VH }] g (.cl i j) := by
 rintro ⟨r2, k, cs, e1, e2, _⟩
 cases i with
 | succ i => simp at e1
 | zero =>
  simp at e1
  subst e1
  simp only [List.getElem?_map, Option.map_eq_some_iff] at e2
  obtain ⟨c, _, hc⟩ := e2
  exact JU hc
theorem HJ {g : Gh} {r0 : Row} (ℓ : Loc) (hl : Lv [.r { r0 with cells := r0.cells.map VH }] g ℓ) : Lv [.r r0] g ℓ := by
 cases ℓ with
 | cl i j => exact absurd hl (NT i j)
 | ob q =>
  cases q with
  | succ q => rcases hl with ⟨r2, e1, _⟩ | ⟨kv, e1⟩ <;> simp at e1
  | zero =>
   rcases hl with ⟨r2, e1, e2⟩ | ⟨kv, e1⟩
   ·exact .inl ⟨r0, rfl, e2⟩
   simp at e1
theorem QN {g : Gh} {r0 : Row} {w : World} (hr : HR g [.r r0] w) {j n : Nat} {k : Nat × Nat} {cs : List Tr} {y : Value} (hj : r0.cells[j]? = some (.o k cs)) (hy : CR g [.r r0] w (.b 0 j n) y) : CR (g.inB r0) [] w (.t k.1 cs) y := by
 obtain ⟨_, h2⟩ := hy
 obtain ⟨h3, h4, _, _⟩ := h2 r0 k cs rfl hj
 rcases hr.row 0 r0 rfl with ⟨k1, k2⟩ | ⟨k1, k2, arr, k3, k4, k5, k6, k7⟩
 ·rw [k2] at hj; simp at hj
 obtain ⟨u, u1, u2⟩ := k7 j _ hj
 have huy : u = y := by
  rw [cell_of_row w _ j arr _ (0, 0) k3, u1] at h4
  exact Option.some.inj h4
 subst huy
 have h := DN (st := { tm := [], hp := [.r r0], n := 0, pin := 0 }) (t := .l k.1 cs) (hp' := [.r { r0 with cells := r0.cells.map VH }]) (fun b _ ho => ho.imp (fun h => h) (fun ⟨ℓ, hl, e⟩ => ⟨ℓ, HJ ℓ hl, e⟩)) hr rfl (NT 0) HJ hj (.inl rfl) u2
 refine h.mono fun b hb ho => ?_
 rcases ho with ho | ⟨ℓ, hl, _⟩
 ·exact ho
 cases ℓ with
 | ob id => rcases hl with ⟨r, h, _⟩ | ⟨kv, h⟩ <;> simp at h
 | cl id j => obtain ⟨r, k, cs, h, _⟩ := hl; simp at h
theorem FC.inB {P : Program} {f : FuncId} {A A' : List AV} {r0 : Row} {e : TypeId} {Q : List Int -> Prop} (hFC : FC P f A [] (fun r o => ∃ L, Q L /\ r = .a (.c (.s 0 L.length)) /\ o = [.r ⟨e, 1, true, A7 L⟩]))
  (hA : ∀ (g : Gh) (w : World) (vals : List Value), HR g [.r r0] w -> GI g [.r r0] w A' vals -> GI (g.inB r0) [] w A vals) :
  FC P f A' [.r r0] (fun r o => ∃ L, Q L /\ r = .a (.c (.s 1 L.length)) /\ o = [.r r0, .r ⟨e, 1, true, A7 L⟩]) := by
 intro g w vals hr hargs
 have noL : ∀ (g : Gh) (ℓ : Loc), ¬ Lv [] g ℓ := by
  intro g ℓ hl
  cases ℓ with
  | ob id => rcases hl with ⟨r, h, _⟩ | ⟨kv, h⟩ <;> simp at h
  | cl id j => obtain ⟨r, k, cs, h, _⟩ := hl; simp at h
 have how : ∀ b, Ow [] (g.inB r0) b -> Ow [.r r0] g b := fun b ho => by
  rcases ho with (ho | ⟨ℓ, hl, e⟩) | ⟨ℓ, hl, _⟩
  ·exact .inl ho
  ·exact .inr ⟨ℓ, HJ ℓ hl, e⟩
  exact absurd hl (noL _ ℓ)
 have hHR : HR (g.inB r0) [] w := by
  refine ⟨fun b hb => ?_, fun ℓ hl => absurd hl (noL _ ℓ), fun ℓ _ hl => absurd hl (noL _ ℓ), fun id r h => by simp at h, fun id r h => by simp at h, hr.gl.keep (Nat.le_refl _) (fun _ _ _ => rfl) (fun k _ h => how k h)⟩
  rcases hb with hb | ⟨ℓ, hl, e⟩
  ·exact hr.ml b hb
  rw [<- e]; exact hr.lt (HJ ℓ hl)
 refine (hFC (g.inB r0) w vals hHR (hA g w vals hr hargs)).mono ?_
 rintro en w' ⟨v, r, outs, g', rfl, ⟨L, hQ, rfl, rfl⟩, h1, h2, h3, h4, h5⟩
 have hnew : ∀ ℓ, Lv [.r ⟨e, 1, true, A7 L⟩] g' ℓ -> w.heap.size <= g'.γ ℓ := fun ℓ hl => (h3 ℓ hl).elim (fun ⟨ℓ2, hl2, _⟩ => absurd hl2 (noL _ ℓ2)) (fun h => h)
 have hfx : ∀ b, b < w.heap.size -> w'.heap[b]? = w.heap[b]? := fun b hb => h5.block b hb (fun ⟨ℓ, hl, _⟩ => noL _ ℓ hl)
 let g2 : Gh := ⟨fun ℓ => match ℓ with
  | .ob 0 => g.γ (.ob 0)
  | .ob (i + 1) => g'.γ (.ob i)
  | .cl 0 j => g.γ (.cl 0 j)
  | .cl (i + 1) j => g'.γ (.cl i j), fun i => match i with
  | 0 => g.κ 0
  | i + 1 => g'.κ i, g.M⟩
 have split : ∀ ℓ, Lv [.r r0, .r ⟨e, 1, true, A7 L⟩] g2 ℓ -> (Lv [.r r0] g ℓ /\ g2.γ ℓ = g.γ ℓ) \/ ∃ ℓ', Lv [.r ⟨e, 1, true, A7 L⟩] g' ℓ' /\ g2.γ ℓ = g'.γ ℓ' /\ ℓ = (match ℓ' with | .ob i => .ob (i + 1) | .cl i j => .cl (i + 1) j) := by
  intro ℓ hl
  cases ℓ with
  | ob q =>
   cases q with
   | zero =>
    rcases hl with ⟨r2, e1, e2⟩ | ⟨kv, e1⟩
    ·exact .inl ⟨.inl ⟨r2, e1, e2⟩, rfl⟩
    simp at e1
   | succ q =>
    rcases hl with ⟨r2, e1, e2⟩ | ⟨kv, e1⟩
    ·exact .inr ⟨.ob q, .inl ⟨r2, e1, e2⟩, rfl, rfl⟩
    exact .inr ⟨.ob q, .inr ⟨kv, e1⟩, rfl, rfl⟩
  | cl q j =>
   obtain ⟨r2, k, cs, e1, e2, e3⟩ := hl
   cases q with
   | zero => exact .inl ⟨⟨r2, k, cs, e1, e2, e3⟩, rfl⟩
   | succ q => exact .inr ⟨.cl q j, ⟨r2, k, cs, e1, e2, e3⟩, rfl, rfl⟩
 have how2 : ∀ b, b < w.heap.size -> Ow [.r r0, .r ⟨e, 1, true, A7 L⟩] g2 b -> Ow [.r r0] g b := by
  rintro b hb (ho | ⟨ℓ, hl, e⟩)
  ·exact .inl ho
  rcases split ℓ hl with ⟨h6, h7⟩ | ⟨ℓ', h6, h7, _⟩
  ·exact .inr ⟨ℓ, h6, by rw [<- e, h7]⟩
  have := hnew ℓ' h6
  rw [<- e, h7] at hb; omega
 have hmo : Mo g [.r r0] w g2 [.r r0, .r ⟨e, 1, true, A7 L⟩] w' (fun _ => True) := by
  refine ⟨fun q hq => ?_, how2, h5.size, fun b hb _ => hfx b hb, fun q _ hq r2 j k cs e1 e2 => ?_⟩
  ·obtain ⟨o, q1, q2⟩ := hq
   cases q with
   | zero => exact ⟨⟨o, q1, q2⟩, rfl, rfl⟩
   | succ q => simp at q1
  obtain ⟨o, q1, q2⟩ := hq
  cases q with
  | zero =>
   simp at e1
   subst e1
   exact ⟨_, rfl, e2, fun hlt => World.cell?_of_block (hfx _ hlt)⟩
  | succ q => simp at q1
 refine ⟨v, .a (.c (.s 1 L.length)), [.r r0, .r ⟨e, 1, true, A7 L⟩], g2, rfl, ⟨L, hQ, rfl, rfl⟩, ?_, ⟨by simp, rfl, fun i hi => ?_⟩, fun ℓ hl => ?_, ?_, ?_⟩
 rotate_left
 ·have : i = 0 := by simp at hi; exact hi
  subst this
  exact ⟨rfl, rfl⟩
 ·rcases split ℓ hl with ⟨h6, h7⟩ | ⟨ℓ', h6, h7, _⟩
  ·exact .inl ⟨ℓ, h6, h7.symm⟩
  exact .inr (by rw [h7]; exact hnew ℓ' h6)
 ·obtain ⟨b1, b2, A0, b3, b4, b5⟩ := h4
  exact ⟨⟨_, rfl, rfl⟩, b2, A0, b3, b4, b5⟩
 ·exact h5.mono fun k _ ⟨ℓ, hl, _⟩ => absurd hl (noL _ ℓ)
 refine ⟨fun b hb => Nat.lt_of_lt_of_le (hr.ml b hb) h5.size, fun ℓ hl hM => ?_, fun ℓ ℓ' a1 a2 a3 => ?_, fun q r2 e1 => ?_, fun q kv e1 => ?_, hmo.gl hr.gl⟩
 rotate_left 3
 ·cases q with
  | zero => simp at e1
  | succ q =>
   cases q with
   | succ q => simp at e1
   | zero => simp at e1
 ·rcases split ℓ hl with ⟨h6, h7⟩ | ⟨ℓ', h6, h7, _⟩
  ·rw [h7] at hM; exact hr.md ℓ h6 hM
  have b1 := hr.ml _ hM
  have b2 := hnew ℓ' h6
  omega
 ·rcases split ℓ a1 with ⟨c1, c2⟩ | ⟨m, c1, c2, c3⟩ <;> rcases split ℓ' a2 with ⟨d1, d2⟩ | ⟨m', d1, d2, d3⟩
  ·exact hr.inj ℓ ℓ' c1 d1 (by rw [<- c2, <- d2]; exact a3)
  ·have b1 := hr.lt c1
   have b2 := hnew m' d1
   omega
  ·have b1 := hr.lt d1
   have b2 := hnew m c1
   omega
  have := h1.inj m m' c1 d1 (by rw [<- c2, <- d2]; exact a3)
  rw [c3, d3, this]
 cases q with
 | zero =>
  simp at e1
  subst e1
  exact RowR.mo hmo rfl (hr.row 0 r0 rfl) (fun hk => hfx _ (hr.lt (.inl ⟨r0, rfl, hk⟩))) (fun j k cs hc hne => ⟨rfl, hfx _ (hr.lt (ℓ := .cl 0 j) ⟨r0, k, cs, rfl, hc, hne⟩)⟩)
 | succ q =>
  cases q with
  | succ q => simp at e1
  | zero =>
   simp at e1
   subst e1
   rcases h1.row 0 _ rfl with h6 | ⟨k1, k2, arr, k3, k4, k5, k6, k7⟩
   ·exact .inl h6
   refine .inr ⟨k1, k2, arr, k3, k4, k5, k6, fun j c hj => ?_⟩
   obtain ⟨u, u1, u2⟩ := k7 j c hj
   simp only [A7, List.getElem?_map, Option.map_eq_some_iff] at hj
   obtain ⟨x, _, rfl⟩ := hj
   exact ⟨u, u1, u2⟩
theorem JD {P : Program} {g : Gh} {hp : List Ob} {w : World} {t : TypeId} {ty : Ty} {id off : Nat} {r : Row} {k : Nat × Nat} {cs : List Tr} {p : Value} (hr : HR g hp w) (hty : tyOf P t = some ty) (hag : ty.agg = true) (hsz : ty.size = 1) (hp1 : CR g hp w (.p id off) p) (hrow : hp[id]? = some (.r r)) (hcell : r.cells[off]? = some (.o k cs)) (hk : 0 < k.1) :
  ∃ v, (∀ W, Fp (fun _ => False) w W -> (Instr.loadAt t p).run P W = .ok v W) /\ AVR (CR g hp w) (.a (.g [.b id off (cs.length / k.1)])) v := by
 obtain ⟨b1, b2⟩ := hp1
 rw [b2]
 rcases hr.row id r hrow with ⟨_, h2⟩ | ⟨_, _, arr, ha, hl, hs, hm, hcells⟩
 ·rw [h2] at hcell; simp at hcell
 obtain ⟨u, f1, f2⟩ := hcells _ _ hcell
 have hcu : w.cell? ⟨g.γ (.ob id), off, none⟩ = some u := by rw [cell_of_row _ _ _ _ _ _ ha]; exact f1
 refine ⟨.agg #[u], fun W hW => CC hty hag _ off [u] (by rw [hsz]; rfl) (fun j v hj => ?_), [u], rfl, rfl, fun i c hi => ?_⟩
 ·cases j with
  | zero =>
   simp at hj
   subst hj
   exact (hW.cell (p := ⟨_, _, none⟩) (Array.getElem?_eq_some_iff.1 ha).1 (fun h => h)).trans hcu
  | succ j => simp at hj
 cases i with
 | succ i => simp at hi
 | zero =>
  simp at hi
  subst hi
  refine ⟨u, rfl, b1, fun r' k' cs' e1 e2 => ?_⟩
  rw [hrow] at e1; cases e1
  rw [hcell] at e2; cases e2
  refine ⟨(Array.getElem?_eq_some_iff.1 ha).1, hcu, ?_⟩
  rcases f2 with ⟨h1, A, h2, _⟩ | ⟨_, n, cp, arr', h2, h3, _⟩
  ·rw [h1]; simp; exact ⟨_, _, h2⟩
  rw [h3, Nat.mul_div_cancel _ hk]; exact ⟨rfl, _, _, h2⟩
theorem Vd {P : Program} {ops : Array Oper} {o : Oper} {st : ST} {K : ST -> Prop} {stop i : Nat} {past : Bool} {rest : List (Nat × Nat)} {t : TypeId} {y : Operand} {ty : Ty} {id off : Nat} {r : Row} {k : Nat × Nat} {cs : List Tr} (hi : ops[i]? = some o) (hg : o.guard = none) (hd : Vu o st.n = true) (ho : o.op = .load t y) (hty : tyOf P t = some ty) (hag : ty.agg = true) (hsz : ty.size = 1) (hy : st.ev y = .a (.c (.p id off))) (hrow : st.hp[id]? = some (.r r)) (hcell : r.cells[off]? = some (.o k cs)) (hk : 0 < k.1)
  (h : CP P ops stop false past rest (st.put o.dst (.a (.g [.b id off (cs.length / k.1)]))) K) : CP P ops stop false past ((i, 1) :: rest) st K := by
 intro M0 w0 a w w1 Q he hp hR hN
 obtain ⟨g, hpp, hR⟩ := hR
 have hyv := hR.ev y
 rw [hy] at hyv
 obtain ⟨v, h1, h2⟩ := JD hR.hr hty hag hsz hyv hrow hcell hk
 have hw := he rfl
 subst hw
 refine ⟨o, v, hi, .inl ⟨by simp [Region.wanted, hg], fun W hW => ?_⟩, h M0 w0 _ w w Q he hp ⟨g, by cases o.dst <;> exact hpp, hR.put (AU hd) h2⟩ hN⟩
 obtain ⟨dst, op, ty, pos, af, gd⟩ := o
 simp only at ho
 subst ho
 simp [execOp, h1 W hW]
theorem StpC.f {P : Program} {o : Oper} {st : ST} {K : ST -> Prop} (h : StpC P o st K True) : Un P o st K := fun M0 w0 a w N Q hR hN => h M0 w0 a w N Q hR fun st' a' w' h1 h2 h3 => hN st' a' w' h1 h2 (h3 trivial)
theorem Sa (out : List Ar) (e t : Int) : (As out).take (out.length * 2) ++ [C.v (.int .i64 e), C.v (.int .i64 t)] = As (out ++ [(e, t)]) := by
 rw [gE7 (by rw [Ah]; exact Nat.le_refl _), Br]
theorem L5 {n : Nat} {r : List Ar} {k : Nat} (h : k < r.length) : (Xf n r).take (k + 1) = (Xf n r).take k ++ [(r[k].1, r[k].2 + (n : Int))] := by
 rw [gE8 (by rw [C2]; exact h)]
 simp [Xf]
theorem L6 {n : Nat} {R : List (List Ar)} {k : Nat} (h : k < R.length) : (Xg n R).take (k + 1) = (Xg n R).take k ++ [Xf n R[k]] := by
 rw [gE8 (by rw [Fd]; exact h)]
 simp [Xg]
set_option maxHeartbeats 4000000 in
theorem JG (A R : List (List Ar)) (hn1 : A.length <= 1000000) (hn : R.length <= 1000000) (hr : ∀ r ∈ R, r.length <= 1000000) (hb : ∀ r ∈ R, ∀ a ∈ r, 0 <= a.2 /\ a.2 < (R.length : Int)) : FC Tryz.prog 9 [Bh A, Bh R] [] (fun r o => o = [.r ⟨25, 1, false, [.t 1 (Ai (CL A R))]⟩] /\ r = Bh (CL A R)) := by
 refine A9 Tryz.func9 rfl (by rw [Tryz.ntmps9]; simp) ?_
 rw [Tryz.ntmps9]
 simp only [Bz, Bh]
 (refine Wf @A4 ?_;(repeat clear hK K);repeat refine kq fun K hK=>?_)
 have hcA : (Ai A).map C.ofTr = AC A := by simp [AC, Ai, C.ofTr, Function.comp_def]
 simp only [hcA]
 refine A6 (fun s : Nat => { tm := [(3, .a (.c (.p 0 0))), (4, .a (.c (.p 1 0))), (5, .i A.length), (6, .a (.c (.p 2 0))), (7, .i s)], hp := [.r ⟨25, 1, false, [.t 1 (Ai R)]⟩, .r ⟨25, 1, false, [.v (.slice none 0 0)]⟩, .r ⟨25, 1, false, [.s 3 (A ++ (Xg A.length R).take s).length]⟩, .r ⟨41, 1, true, AC (A ++ (Xg A.length R).take s)⟩], n := 67, pin := 0 }) (fun s => s <= R.length) (fun s => R.length - s) 0 ?_ ?_ ?_
 ·omega
 ·refine Le.trans (A8 [1, 2, 3, 4] rfl rfl) ?_
  (try simp only [List.set_nil, List.take_nil, List.take_zero, List.map_append, go_sem])
  (try simp only [Bp])
  simp only [List.take_zero, List.append_nil]
  exact Wo
 rintro s hs K hK
 by_cases hlt : s < R.length
 rotate_left
 ·have d1 : decide ((s : Int) < (R.length : Int)) = false := by simpa using hlt
  have hse : A ++ (Xg A.length R).take s = CL A R := by rw [gE7 (by rw [Fd]; omega)]; rfl
  rw [hse]
  (refine Wf (an @A4 @d1) ?_;(repeat clear hK K);repeat refine kq fun K hK=>?_)
  refine Wm ?_
  (refine Wi ?_;repeat clear hK K)
  refine Av (AR (r := ⟨41, 1, true, AC (CL A R)⟩) (ri := ⟨25, 1, false, [.s 3 (CL A R).length]⟩) (ts := Ai (CL A R)) 2 0 3 (CL A R).length (by decide) rfl rfl rfl rfl (show 0 < 1 by omega) (by rw [Af, Nat.mul_one]) (Ee _)) ?_
  simp only [go_sem]
  refine Av (CD 2 rfl) ?_
  simp only [VH, go_sem]
  (refine We ?_;(repeat clear hK K);repeat refine kq fun K hK=>?_)
  ((try refine AF ?_); (try simp only [Ae, AJ]); refine Bm (A8 [1] rfl rfl) ?_; (try simp only [List.set_nil, List.take_nil, List.take_zero, List.map_append, go_sem]); ((try refine AF ?_); (try refine Ab ?_); (try simp only [Ae, AJ]); refine BE (by first | exact .inl rfl | exact .inr rfl) rfl ?_; simp only [VE, EO, Em, EU, Tryz.results9, go_sem, true_and, and_true, Bh]))
 have d1 : decide ((s : Int) < (R.length : Int)) = true := by simpa using hlt
 have hgR := gE1 hlt
 have hrl := hr _ (gE6 hlt)
 have htk := L6 (n := A.length) hlt
 have hbr := fun a ha => hb _ (gE6 hlt) a ha
 have hol : (A ++ (Xg A.length R).take s).length <= 2000000 := by rw [List.length_append, List.length_take, Fd]; omega
 have hnx : A ++ (Xg A.length R).take (s + 1) = (A ++ (Xg A.length R).take s) ++ [Xf A.length R[s]] := by rw [htk, List.append_assoc]
 generalize R[s] = row at *
 generalize hO : A ++ (Xg A.length R).take s = O at *
 (refine Wf (an @A4 @d1) ?_;(repeat clear hK K);repeat refine kq fun K hK=>?_)
 refine Wl ?_
 (refine We ?_;(repeat clear hK K);repeat refine kq fun K hK=>?_)
 refine Av (Dt 8 40 2 ?_) ?_
 ·simp only [go_sem]
 refine A6 (fun k : Nat => { tm := [(3, .a (.c (.p 0 0))), (4, .a (.c (.p 1 0))), (5, .i A.length), (6, .a (.c (.p 2 0))), (7, .i s), (8, .a (.c (.s 4 k))), (9, .i k)], hp := [.r ⟨25, 1, false, [.t 1 (Ai R)]⟩, .r ⟨25, 1, false, [.v (.slice none 0 0)]⟩, .r ⟨25, 1, false, [.s 3 O.length]⟩, .r ⟨41, 1, true, AC O⟩, .r ⟨40, 2, true, As ((Xf A.length row).take k)⟩], n := 67, pin := 0 }) (fun k => k <= row.length) (fun k => row.length - k) 0 ?_ ?_ ?_
 ·omega
 ·simp only [List.take_zero]
  exact Wo
 rintro k hk K hK
 by_cases hlt2 : k < row.length
 rotate_left
 ·have d2 : decide ((k : Int) < (row.length : Int)) = false := by simpa using hlt2
  have hke : (Xf A.length row).take k = Xf A.length row := gE7 (by rw [C2]; omega)
  have hkl : (Xf A.length row).length = k := by rw [C2]; omega
  rw [hke]
  (refine Wf (an @A4 (an (Ac hgR) (an @A3 (an @Al @d2)))) ?_;(repeat clear hK K);repeat refine kq fun K hK=>?_)
  refine Wm ?_
  (refine Wi ?_;repeat clear hK K)
  have hft : (if k * 2 <= (At (Xf A.length row)).length then C.t 2 ((At (Xf A.length row)).take (k * 2)) else C.u) = C.t 2 (At (Xf A.length row)) := by
   rw [if_pos (by rw [A3, hkl]; exact Nat.le_refl _), gE7 (by rw [A3, hkl]; exact Nat.le_refl _)]
  (refine Av (BA (r := ⟨40, 2, true, As (Xf A.length row)⟩) 4 (At (Xf A.length row)) rfl (DA _) (show 0 < (2 : Nat) by omega)) ?_; simp only [ST.frz, A0.frz, AV.frz, C.frz, Nat.le_refl, List.set_cons_zero, List.set_cons_succ, go_sem, hft])
  generalize Xf A.length row = q at *
  have hcr : (AC O).take O.length ++ [C.t 2 (At q)] = AC (O ++ [q]) := by rw [gE7 (by rw [Af]; exact Nat.le_refl _)]; simp [AC]
  (refine Wf (an @Af @hcr) ?_;(repeat clear hK K);repeat refine kq fun K hK=>?_)
  refine Wn ?_
  refine hK _ (s + 1) (by omega) (by omega) ?_
  rw [hnx]
  refine Le.trans (A8 [0, 1, 2, 6] rfl rfl) ?_
  (try simp only [List.set_nil, List.take_nil, List.take_zero, List.map_append, go_sem])
  (try simp only [Bp])
  simp only [List.length_append, List.length_cons, List.length_nil]
  exact Wo
 have d2 : decide ((k : Int) < (row.length : Int)) = true := by simpa using hlt2
 have ha0 := CQ hlt2
 have ha1 := Dk hlt2
 have hsl := C2 A.length row
 have hsk := L5 (n := A.length) hlt2
 have hkl : ((Xf A.length row).take k).length = k := by rw [List.length_take, hsl]; omega
 have ca := Sa ((Xf A.length row).take k) row[k].1 (row[k].2 + (A.length : Int))
 rw [hkl, <- hsk] at ca
 have hbk := hbr _ (gE6 hlt2)
 generalize row[k] = a at *
 obtain ⟨e, t⟩ := a
 simp only at ha0 ha1 hbk ca
 (refine Wf (an @A4 (an (Ac hgR) (an @A3 (an @Al @d2)))) ?_;(repeat clear hK K);repeat refine kq fun K hK=>?_)
 refine Wl ?_
 (refine We ?_;(repeat clear hK K);repeat refine kq fun K hK=>?_)
 (refine AD [] (.m 0 0 0 (.m 1 0 0 (.m 2 1 22 (.m 3 0 0 (.m 4 0 0 (.m 5 1 22 (.m 6 0 0 (.m 7 0 0 (.m 8 0 0 (.m 9 1 22 (.m 10 0 0 (.m 11 1 22 (.m 12 0 0 (.m 13 0 0 (.m 14 1 22 (.m 15 0 0 (.m 16 0 0 (.m 17 0 0 (.m 18 1 22 (.m 19 0 0 (.m 20 0 0 (.m 21 0 0 (.a 22 (.a 23 (.m 24 0 0 .e))))))))))))))))))))))))) (by kernel_rfl) (by kernel_rfl) (by intro c st h; simp [Ae, AJ, VD] at h) ?_)
 (refine Wh (an @A4 (an (Ac hgR) (an @A3 (an @Al (an @ha0 @ha1))))) ?_; repeat clear hK K)
 (refine W4 rfl rfl ?_; intro K1 hK1; refine BF rfl ?_; simp only [go_sem]; (first | refine hK1 _ ?_ | refine AE (hK1 _ ?_)); clear hK1 K1)
 (refine EY rfl rfl rfl ?_; intro K1 hK1; refine CF rfl rfl rfl rfl (by first | rfl | simp only [CM, List.getD_cons_zero, List.getD_cons_succ, hne, List.isEmpty_cons, Bool.not_false, Bool.true_and, Bool.and_true, Bool.and_self]) rfl ?_; simp only [go_sem, Ah, hkl, ca]; (first | refine hK1 _ ?_ | refine AE (hK1 _ ?_)); clear hK1 K1)
 (refine Wg ?_; repeat clear hK K)
 dsimp only
 (refine We ?_;(repeat clear hK K);repeat refine kq fun K hK=>?_)
 refine Wn ?_
 refine hK _ (k + 1) (by omega) (by omega) ?_
 refine Le.trans (A8 [0, 1, 2, 3, 6] rfl rfl) ?_
 (try simp only [List.set_nil, List.take_nil, List.take_zero, List.map_append, go_sem])
 (try simp only [F6, Bp])
 exact Wo
end Go.Proofs.YthnkailnoobdoaaGreatDoor
