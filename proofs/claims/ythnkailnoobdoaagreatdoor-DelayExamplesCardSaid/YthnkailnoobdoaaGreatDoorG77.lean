/- Lemmas. -/
import Derived.Test.YthnkailnoobdoaaGreatDoorZk
import Derived.Test.YthnkailnoobdoaaGreatDoorOd1
import Derived.Test.YthnkailnoobdoaaGreatDoorG67
import Derived.Test.YthnkailnoobdoaaGreatDoorMD
import Derived.Test.YthnkailnoobdoaaGreatDoorG11
namespace Go.Proofs.YthnkailnoobdoaaGreatDoor
set_option linter.unusedVariables false
set_option linter.unusedSimpArgs false
open Go.RowKit
set_option maxRecDepth 100000
attribute [local go_sem] lga C.pl C.one

def NR (f : Nat -> Nat) (E : List Ed) (k : Nat) : List Nat := (List.range k).filter fun s => decide (f s = s) && Xb E s == 0
theorem NS (f : Nat -> Nat) (E : List Ed) (k : Nat) : NR f E (k + 1) = NR f E k ++ if f k = k /\ Xb E k = 0 then [k] else [] := by
 unfold NR
 rw [List.range_succ, List.filter_append]
 by_cases h1 : f k = k <;> by_cases h2 : Xb E k = 0 <;> simp [h1, h2]
theorem PV (f : Nat -> Nat) (E : List Ed) (k : Nat) : (NR f E k).length <= k := by
 have := List.length_filter_le (fun s => decide (f s = s) && Xb E s == 0) (List.range k)
 rwa [List.length_range] at this
theorem Kh.start {E : List Ed} {n : Nat} {f : Nat -> Nat} : Kh E n f 0 0 (NR f E n) (Xc n E) := by
 refine ⟨Gp _ _, fun c hc => ?_, (List.nodup_range).filter _, fun c hc => ?_, fun c hc hf => ?_, fun j c hj e he h1 => ?_⟩
 ·rw [HA hc]; simp [RD]
 ·have := List.mem_filter.1 hc
  simp only [List.mem_range, Bool.and_eq_true, decide_eq_true_eq] at this
  exact ⟨this.1, this.2.1⟩
 ·rw [HA hc]
  unfold NR
  rw [List.mem_filter]
  simp only [List.mem_range, Bool.and_eq_true, decide_eq_true_eq, beq_iff_eq]
  constructor
  ·rintro ⟨_, _, h⟩; rw [h]; rfl
  intro h; injection h with h; exact ⟨hc, hf, by omega⟩
 have hin := gE9 hj
 have h2 := (List.mem_filter.1 hin).2
 simp only [Bool.and_eq_true, decide_eq_true_eq, beq_iff_eq] at h2
 have h3 : Xb E c = 0 := h2.2
 unfold Xb at h3
 rw [List.countP_eq_zero] at h3
 exact absurd (by simpa using h1) (h3 e he)
set_option maxHeartbeats 8000000 in
theorem U1 (R : List (List Ar)) (D : List Int) (f rk : Nat -> Nat) (hlo : ∀ r ∈ R, ∀ a ∈ r, 0 <= a.2 /\ a.2 < (R.length : Int)) (htot : AN R <= 1000000) (hDl : D.length = R.length) (hD : ∀ v, v < R.length -> D[v]? = some (f v : Int) /\ f v < R.length) (hE : ∀ e ∈ Xa f R R.length, (e.1 < R.length /\ f e.1 = e.1) /\ e.2 < R.length /\ f e.2 = e.2 /\ rk e.2 < rk e.1) (hn : R.length <= 1000000) (hr : ∀ r ∈ R, r.length <= 1000000) : FC Tryz.prog 45 [Bh R, Aq D] [] (fun r o => ∃ Q, HB (Xa f R R.length) R.length f Q /\ r = .a (.c (.s 0 Q.length)) /\ o = [Aw (Q.map Int.ofNat)]) := by
 refine A9 Tryz.func45 rfl (by rw [Tryz.ntmps45]; simp) ?_
 rw [Tryz.ntmps45]
 simp only [Bz, Bh, Aq]
 (refine Wf @A4 ?_;(repeat clear hK K);repeat refine kq fun K hK=>?_)
 have e0 : List.replicate R.length (C.v (.int .i64 0)) = A7 (Xc R.length (Xa f R 0)) := by
  have : Xc R.length (Xa f R 0) = List.replicate R.length 0 := List.ext_getElem (by simp [Xc]) fun i h1 h2 => by simp [Xc, Xa, Xb]
  rw [this]; simp [A7]
 have e1 : List.replicate R.length (C.o (1, 3) []) = B9 (En R.length (Xa f R 0)) := by
  have : En R.length (Xa f R 0) = List.replicate R.length [] := List.ext_getElem (by simp [En]) fun i h1 h2 => by simp [En, Xa, Xd]
  rw [this]; simp [B9, Aa]
 rw [e0, e1]
 refine A6 (fun k : Nat => { tm := [(1, .a (.c (.t 1 (Aa D)))), (2, .a (.c (.p 0 0))), (5, .a (.c (.s 1 R.length))), (6, .a (.c (.s 2 R.length))), (28, .a (.c (.t 1 (Ai R)))), (29, .i R.length), (30, .i k)], hp := [.r ⟨25, 1, false, [.t 1 (Ai R)]⟩, .r ⟨3, 1, true, A7 (Xc R.length (Xa f R k))⟩, .r ⟨22, 1, true, B9 (En R.length (Xa f R k))⟩], n := 133, pin := 0 }) (fun k => k <= R.length) (fun k => R.length - k) 0 ?_ ?_ ?_
 ·omega
 ·exact Wo
 rintro k hk K hK
 by_cases hlt : k < R.length
 ·have d1 : decide ((k : Int) < (R.length : Int)) = true := by simpa using hlt
  have hgR := gE1 hlt
  have hgd : R.getD k [] = R[k] := by rw [gE2, hgR]; rfl
  have hrl := hr _ (gE6 hlt)
  have hbs := hlo _ (gE6 hlt)
  have hel := Nl f R k hk
  have hto := BX hlt
  have hto2 := Gc R (k + 1)
  have hsu : Xa f R (k + 1) = Xa f R k ++ X9 f k R[k] := by rw [KH, hgd]
  obtain ⟨gDk0, hfk⟩ := hD k hlt
  have gDk := Aj gDk0
  generalize R[k] = row at *
  generalize Xa f R k = E0 at *
  (refine Wf @d1 ?_;(repeat clear hK K);repeat refine kq fun K hK=>?_)
  refine Wl ?_
  (refine Wf (an @A4 (an (Ac hgR) (an @A3 @Al))) ?_;(repeat clear hK K);repeat refine kq fun K hK=>?_)
  refine A6 (fun j : Nat => { tm := [(1, .a (.c (.t 1 (Aa D)))), (2, .a (.c (.p 0 0))), (5, .a (.c (.s 1 R.length))), (6, .a (.c (.s 2 R.length))), (7, .i k), (28, .a (.c (.t 1 (Ai R)))), (29, .i R.length), (30, .i k), (35, .a (.c (.t 2 (At row)))), (36, .i row.length), (37, .i j)], hp := [.r ⟨25, 1, false, [.t 1 (Ai R)]⟩, .r ⟨3, 1, true, A7 (Xc R.length (E0 ++ X9 f k (row.take j)))⟩, .r ⟨22, 1, true, B9 (En R.length (E0 ++ X9 f k (row.take j)))⟩], n := 133, pin := 0 }) (fun j => j <= row.length) (fun j => row.length - j) 0 ?_ ?_ ?_
  ·omega
  ·simp only [List.take_zero, X9, List.filterMap_nil, List.append_nil]
   exact Wo
  rintro j hj K hK
  by_cases hlt2 : j < row.length
  rotate_left
  ·have d2 : decide ((j : Int) < (row.length : Int)) = false := by simpa using hlt2
   have hje : row.take j = row := gE7 (by omega)
   rw [hje, <- hsu]
   (refine Wf @d2 ?_;(repeat clear hK K);repeat refine kq fun K hK=>?_)
   refine Wm ?_
   (refine Wi ?_;repeat clear hK K)
   (refine We ?_;(repeat clear hK K);repeat refine kq fun K hK=>?_)
   refine Wn ?_
   refine hK _ (k + 1) (by omega) (by omega) ?_
   exact Wo
  have d2 : decide ((j : Int) < (row.length : Int)) = true := by simpa using hlt2
  have hat := Be hlt2
  have hb := hbs _ (gE6 hlt2)
  have hsn := Pu f k (row.take j) row[j]
  rw [<- gE8 hlt2] at hsn
  have hrl2 := List.length_filterMap_le (X8 f k) (row.take j)
  have hrl3 : (X9 f k (row.take j)).length <= j := by have := List.length_take_le j row; unfold X9; omega
  generalize row[j] = a at *
  obtain ⟨e, t⟩ := a
  simp only at hat hb
  obtain ⟨tn, rfl⟩ : ∃ tn : Nat, t = (tn : Int) := ⟨t.toNat, by omega⟩
  have htn : tn < R.length := by omega
  obtain ⟨gDt0, hft⟩ := hD tn htn
  have gDt := Aj gDt0
  have hEl : (E0 ++ X9 f k (row.take j)).length <= 1000000 := by rw [List.length_append]; omega
  have hdef : X8 f k (e, (tn : Int)) = if e = 0 /\ f k ≠ f tn then some (f k, f tn) else none := rfl
  have hnx : E0 ++ X9 f k (row.take (j + 1)) = (E0 ++ X9 f k (row.take j)) ++ (X8 f k (e, (tn : Int))).toList := by rw [hsn, List.append_assoc]
  generalize E0 ++ X9 f k (row.take j) = E at *
  have hcl := QD E (f k)
  have hbl := Nn E (f tn)
  have hwl := Gp R.length E
  have hbfl := FK R.length E
  (refine Wf @d2 ?_;(repeat clear hK K);repeat refine kq fun K hK=>?_)
  refine Wl ?_
  (refine Cr (an @hat (an @A3 @Al)) ?_;(repeat clear hK K);repeat refine kq fun K hK=>?_)
  (refine Ao 10 [(0, 0), (1, 0), (2, 0), (3, 1), (4, 0), (5, 0), (6, 1), (7, 0), (8, 1), (9, 0), (10, 2)] (by kernel_rfl) (by kernel_rfl) (by intro c st h; simp [Ae, AJ, VD] at h) ?_)
  (refine Wb (an @Yi (an @hDl (an @gDk @gDt))) ?_; repeat clear hK K)
  by_cases hq : e = 0 /\ f k ≠ f tn
  rotate_left
  ·rw [if_neg hq] at hdef
   rw [hdef] at hnx
   have hnx : E0 ++ X9 f k (row.take (j + 1)) = E := by rw [hnx]; simp
   by_cases he : e = 0
   rotate_left
   ·have d3 : (e == 0) = false := by simpa using he
    (refine Wf @d3 ?_;(repeat clear hK K);repeat refine kq fun K hK=>?_)
    refine Wm ?_
    (refine We ?_;(repeat clear hK K);repeat refine kq fun K hK=>?_)
    refine Wn ?_
    refine hK _ (j + 1) (by omega) (by omega) ?_
    refine Le.trans (A8 [0, 1, 2] rfl rfl) ?_
    (try simp only [List.set_nil, List.take_nil, List.take_zero, List.map_append, go_sem])
    (try simp only [Ak, D7])
    rw [hnx]
    exact Wo
   have d3 : (e == 0) = true := by simpa using he
   have hff : f k = f tn := Decidable.not_not.1 fun h => hq ⟨he, h⟩
   have d4 : ((f k : Int) != (f tn : Int)) = false := by simp [hff]
   (refine Wf (an @d3 @d4) ?_;(repeat clear hK K);repeat refine kq fun K hK=>?_)
   refine Wm ?_
   (refine We ?_;(repeat clear hK K);repeat refine kq fun K hK=>?_)
   refine Wn ?_
   refine hK _ (j + 1) (by omega) (by omega) ?_
   refine Le.trans (A8 [0, 1, 2] rfl rfl) ?_
   (try simp only [List.set_nil, List.take_nil, List.take_zero, List.map_append, go_sem])
   (try simp only [Ak, D7])
   rw [hnx]
   exact Wo
  obtain ⟨he, hff⟩ := hq
  have d3 : (e == 0) = true := by simpa using he
  have d4 : ((f k : Int) != (f tn : Int)) = true := by simp; omega
  rw [if_pos ⟨he, hff⟩] at hdef
  rw [hdef] at hnx
  have hnx : E0 ++ X9 f k (row.take (j + 1)) = E ++ [(f k, f tn)] := hnx
  have gW : (A7 (Xc R.length E))[f k]? = some (.v (.int .i64 (Xb E (f k) : Nat))) := Ax (HA hfk)
  have gB := DV (KI (E := E) hft)
  have hws := Pw (E := E) (t := f tn) hfk
  have hbs2 := Nm (E := E) (c := f k) hft
  have hml : ((Xd E (f tn)).map Int.ofNat).length <= 1000000 := by rw [List.length_map]; omega
  generalize (Xd E (f tn)).map Int.ofNat = oc at *
  (refine Wf (an @d3 @d4) ?_;(repeat clear hK K);repeat refine kq fun K hK=>?_)
  refine Wl ?_
  (refine Cr (an @A5 (an @hwl (an @gW (an @B3 (an @hws (an @Bs (an @gB (an @hbfl (an @CU (an @List.length_set.{0} (an @List.set_cons_zero.{0} (an @List.set_cons_succ.{0} (an @List.take_succ_cons.{0} (an @List.take_zero.{0} (an @List.drop_zero.{0} (an @List.length_take.{0} (an @List.length_drop.{0} (an @List.length_append.{0} (an @Yi (an @Az (an @AZ (an @BC (an @A5 (an @B6 (an @AH (an @Bd (an @AM @AY))))))))))))))))))))))))))) ?_;(repeat clear hK K);repeat refine kq fun K hK=>?_)
  have hj6 : ((B9 (En R.length E)).set (f tn) (C.s 5 (oc.length + 1)))[f tn]? = some (.s 5 (oc.length + 1)) := by rw [gEc (by rw [Bs]; omega)]
  have hset6 : ((B9 (En R.length E)).set (f tn) (C.s 5 (oc.length + 1))).set (f tn) (.o (1, 3) (Aa (oc ++ [(f k : Int)]))) = B9 (En R.length (E ++ [(f k, f tn)])) := by rw [CU, F9, hbs2]
  refine Wn ?_
  refine hK _ (j + 1) (by omega) (by omega) ?_
  refine Le.trans (AR (r := ⟨3, 1, true, A7 (oc ++ [(f k : Int)])⟩) (ri := ⟨22, 1, true, (B9 (En R.length E)).set (f tn) (C.s 5 (oc.length + 1))⟩) (ts := Aa (oc ++ [(f k : Int)])) 2 (f tn) 5 (oc.length + 1) (by decide) rfl hj6 rfl rfl (show 0 < 1 by omega) (by rw [A5]; simp) (Gd _)) ?_
  simp only [hset6, go_sem]
  refine Le.trans (A8 [0, 1, 2] rfl rfl) ?_
  (try simp only [List.set_nil, List.take_nil, List.take_zero, List.map_append, go_sem])
  (try simp only [Ak, D7])
  rw [hnx]
  exact Wo
 have d1 : decide ((k : Int) < (R.length : Int)) = false := by simpa using hlt
 have hke : k = R.length := by omega
 have hel := Nl f R R.length (Nat.le_refl _)
 rw [List.take_length] at hel
 rw [hke] at d1
 rw [hke]
 obtain ⟨E, hEe⟩ : ∃ E, E = Xa f R R.length := ⟨_, rfl⟩
 rw [<- hEe] at hel hE ⊢
 have hwl := Gp R.length E
 have hbfl := FK R.length E
 (refine Wf @d1 ?_;(repeat clear hK K);repeat refine kq fun K hK=>?_)
 refine Wm ?_
 (refine Wi ?_;repeat clear hK K)
 refine Av (CD 2 rfl) ?_
 simp only [Fg, go_sem]
 have htk : (Cw (En R.length E)).take R.length = Cw (En R.length E) := gE7 (by rw [BQ]; omega)
 have hif : (if R.length <= (Cw (En R.length E)).length then C.t 1 (Cw (En R.length E)) else C.u) = C.t 1 (Cw (En R.length E)) := if_pos (by rw [BQ]; omega)
 (refine Av (BA (r := ⟨22, 1, true, Cz (En R.length E)⟩) 2 (Cw (En R.length E)) rfl (PF _) (show 0 < (1 : Nat) by omega)) ?_; simp only [ST.frz, A0.frz, AV.frz, C.frz, Nat.le_refl, List.set_cons_zero, List.set_cons_succ, go_sem, htk, hif])
 (refine Wf (an @Yi @hDl) ?_;(repeat clear hK K);repeat refine kq fun K hK=>?_)
 refine Av (Dt 13 3 1 ?_) ?_
 ·simp only [go_sem]
 refine Av (A8 [1, 3] rfl rfl) ?_
 (try simp only [List.set_nil, List.take_nil, List.take_zero, List.map_append, go_sem])
 (try simp only [Ak])
 refine A6 (fun k : Nat => { tm := [(5, .a (.c (.s 0 R.length))), (6, .a (.c (.t 1 (Cw (En R.length E))))), (13, .a (.c (.s 1 (NR f E k).length))), (76, .a (.c (.t 1 (Aa D)))), (77, .i R.length), (78, .i k)], hp := [.r ⟨3, 1, true, A7 (Xc R.length E)⟩, .r ⟨3, 1, true, A7 ((NR f E k).map Int.ofNat)⟩], n := 133, pin := 0 }) (fun k => k <= R.length) (fun k => R.length - k) 0 ?_ ?_ ?_
 ·omega
 ·simp only [NR, List.range_zero, List.filter_nil, List.map_nil, List.length_nil, A7]
  exact Wo
 clear hk hlt d1 hke
 rintro k hk K hK
 have hql := PV f E k
 have hsu := NS f E k
 by_cases hlt : k < R.length
 ·have d2 : decide ((k : Int) < (R.length : Int)) = true := by simpa using hlt
  obtain ⟨gD0, hfk⟩ := hD k hlt
  have gD := Aj gD0
  have gW : (A7 (Xc R.length E))[f k]? = some (.v (.int .i64 (Xb E (f k) : Nat))) := Ax (HA hfk)
  by_cases h1 : f k = k
  rotate_left
  ·have d3 : ((k : Int) == (f k : Int)) = false := by simp; omega
   rw [if_neg (fun h => h1 h.1), List.append_nil] at hsu
   (refine Wf @d2 ?_;(repeat clear hK K);repeat refine kq fun K hK=>?_)
   refine Wl ?_
   (refine Wf (an @Yi (an @hDl (an @gD @d3))) ?_;(repeat clear hK K);repeat refine kq fun K hK=>?_)
   refine Wm ?_
   (refine We ?_;(repeat clear hK K);repeat refine kq fun K hK=>?_)
   refine Wn ?_
   refine hK _ (k + 1) (by omega) (by omega) ?_
   rw [hsu]
   exact Wo
  have d3 : ((k : Int) == (f k : Int)) = true := by simp [h1]
  by_cases h2 : Xb E (f k) = 0
  rotate_left
  ·have d4 : (((Xb E (f k) : Nat) : Int) == 0) = false := by simp; omega
   rw [if_neg (fun h => h2 (by rw [h.1]; exact h.2)), List.append_nil] at hsu
   (refine Wf @d2 ?_;(repeat clear hK K);repeat refine kq fun K hK=>?_)
   refine Wl ?_
   (refine Wf (an @Yi (an @hDl (an @gD (an @d3 (an @A5 (an @hwl (an @gW @d4))))))) ?_;(repeat clear hK K);repeat refine kq fun K hK=>?_)
   refine Wm ?_
   (refine We ?_;(repeat clear hK K);repeat refine kq fun K hK=>?_)
   refine Wn ?_
   refine hK _ (k + 1) (by omega) (by omega) ?_
   rw [hsu]
   exact Wo
  have d4 : (((Xb E (f k) : Nat) : Int) == 0) = true := by simp [h2]
  rw [if_pos ⟨h1, by rw [<- h1]; exact h2⟩] at hsu
  generalize NR f E k = Q at *
  (refine Wf @d2 ?_;(repeat clear hK K);repeat refine kq fun K hK=>?_)
  refine Wl ?_
  (refine Wf (an @Yi (an @hDl (an @gD (an @d3 (an @A5 (an @hwl (an @gW @d4))))))) ?_;(repeat clear hK K);repeat refine kq fun K hK=>?_)
  refine Wl ?_
  (refine Wf (an @List.length_map.{0, 0} (an @List.set_cons_zero.{0} (an @List.set_cons_succ.{0} (an @List.take_succ_cons.{0} (an @List.take_zero.{0} (an @List.drop_zero.{0} (an @List.length_take.{0} (an @List.length_drop.{0} (an @List.length_append.{0} (an @Yi (an @Az (an @AZ (an @BC (an @A5 (an @B6 (an @AH (an @Bd (an @AM @AY)))))))))))))))))) ?_;(repeat clear hK K);repeat refine kq fun K hK=>?_)
  refine Wn ?_
  refine hK _ (k + 1) (by omega) (by omega) ?_
  refine Le.trans (A8 [0, 3] rfl rfl) ?_
  (try simp only [List.set_nil, List.take_nil, List.take_zero, List.map_append, go_sem])
  (try simp only [Ak])
  have htk2 : (Q.map Int.ofNat).take Q.length = Q.map Int.ofNat := gE7 (by simp)
  rw [hsu]
  simp only [htk2, List.map_append, List.map_cons, List.map_nil, List.length_append, List.length_singleton, h1]
  exact Wo
 have d2 : decide ((k : Int) < (R.length : Int)) = false := by simpa using hlt
 have hke : k = R.length := by omega
 rw [hke] at d2
 rw [hke]
 (refine Wf @d2 ?_;(repeat clear hK K);repeat refine kq fun K hK=>?_)
 refine Wm ?_
 (refine Wi ?_;repeat clear hK K)
 (refine We ?_;(repeat clear hK K);repeat refine kq fun K hK=>?_)
 refine A6 (fun x : Nat × List Nat × List Int => { tm := [(5, .a (.c (.s 0 R.length))), (6, .a (.c (.t 1 (Cw (En R.length E))))), (13, .a (.c (.s 1 x.2.1.length))), (16, .i x.1)], hp := [.r ⟨3, 1, true, A7 x.2.2⟩, .r ⟨3, 1, true, A7 (x.2.1.map Int.ofNat)⟩], n := 133, pin := 0 }) (fun x => x.1 <= x.2.1.length /\ Kh E R.length f x.1 0 x.2.1 x.2.2) (fun x => R.length - x.1) (0, NR f E R.length, Xc R.length E) ?_ ?_ ?_
 ·exact ⟨by simp, Kh.start⟩
 ·exact Wo
 clear hk hlt d2 hke hql hsu
 rintro ⟨i, Q, W⟩ ⟨hi, hK1⟩ K hK
 simp only at hi hK1
 have hQl := hK1.qlen
 have hWl := hK1.len
 by_cases hli : i < Q.length
 rotate_left
 ·have d3 : decide ((i : Int) < (Q.length : Int)) = false := by simpa using hli
  have hie : i = Q.length := by omega
  rw [hie] at hK1
  (refine Wf @d3 ?_;(repeat clear hK K);repeat refine kq fun K hK=>?_)
  refine Wm ?_
  (refine Wi ?_;repeat clear hK K)
  (refine We ?_;(repeat clear hK K);repeat refine kq fun K hK=>?_)
  ((try refine AF ?_); (try simp only [Ae, AJ]); refine Bm (A8 [1] rfl rfl) ?_; (try simp only [List.set_nil, List.take_nil, List.take_zero, List.map_append, go_sem]); ((try refine AF ?_); (try refine Ab ?_); (try simp only [Ae, AJ]); refine BE (by first | exact .inl rfl | exact .inr rfl) rfl ?_; simp only [VE, EO, Em, EU, Tryz.results45, go_sem, true_and, and_true, Ak, Aw]))
  exact ⟨Q, by rw [<- hEe]; exact hK1.done rk (fun e he => (hE e he).2), rfl, rfl⟩
 have d3 : decide ((i : Int) < (Q.length : Int)) = true := by simpa using hli
 have hqg : Q.getD i 0 = Q[i] := by rw [gE2, gE1 hli]; rfl
 have hqn := (hK1.rep _ (gE6 hli)).1
 have gq : (A7 (Q.map Int.ofNat))[i]? = some (.v (.int .i64 ((Q[i] : Nat) : Int))) := Ax (by rw [List.getElem?_map, gE1 hli]; rfl)
 have hqi := gE1 hli
 generalize Q[i] = q at *
 have gB := Dy (KI (E := E) hqn)
 have hbl := Nn E q
 (refine Wf @d3 ?_;(repeat clear hK K);repeat refine kq fun K hK=>?_)
 refine Wl ?_
 (refine Wf (an @A5 (an @List.length_map.{0, 0} (an @gq (an @BQ (an @hbfl (an @gB @Yi)))))) ?_;(repeat clear hK K);repeat refine kq fun K hK=>?_)
 refine A6 (fun x : Nat × List Nat × List Int => { tm := [(5, .a (.c (.s 0 R.length))), (6, .a (.c (.t 1 (Cw (En R.length E))))), (13, .a (.c (.s 1 x.2.1.length))), (16, .i i), (110, .a (.c (.t 1 (Aa ((Xd E q).map Int.ofNat))))), (111, .i (Xd E q).length), (112, .i x.1)], hp := [.r ⟨3, 1, true, A7 x.2.2⟩, .r ⟨3, 1, true, A7 (x.2.1.map Int.ofNat)⟩], n := 133, pin := 0 }) (fun x => x.1 <= (Xd E q).length /\ i < x.2.1.length /\ x.2.1.getD i 0 = q /\ Kh E R.length f i x.1 x.2.1 x.2.2) (fun x => (Xd E q).length - x.1) (0, Q, W) ?_ ?_ ?_
 ·exact ⟨by simp, hli, hqg, hK1⟩
 ·exact Wo
 clear hK1 hQl hWl hi hli d3 gq hqi hqg
 rintro ⟨m, Q, W⟩ ⟨hm, hli, hqg, hK1⟩ K hK
 simp only at hm hli hqg hK1
 have hQl := hK1.qlen
 have hWl := hK1.len
 by_cases hlm : m < (Xd E q).length
 rotate_left
 ·have d4 : decide ((m : Int) < ((Xd E q).length : Int)) = false := by simpa using hlm
  have hnx := hK1.next hli (by rw [hqg]; omega)
  (refine Wf @d4 ?_;(repeat clear hK K);repeat refine kq fun K hK=>?_)
  refine Wm ?_
  (refine Wi ?_;repeat clear hK K)
  (refine We ?_;(repeat clear hK K);repeat refine kq fun K hK=>?_)
  refine Wn ?_
  refine hK _ (i + 1, Q, W) ⟨by simp only; omega, hnx⟩ (by simp only; omega) ?_
  exact Wo
 have d4 : decide ((m : Int) < ((Xd E q).length : Int)) = true := by simpa using hlm
 have hcm : (Xd E (Q.getD i 0))[m]? = some (Xd E q)[m] := by rw [hqg]; exact gE1 hlm
 obtain ⟨hc1, hc2, w, hw, hw1, hw2, hst1, hst2⟩ := hK1.step hli (fun e he => (hE e he).1) hcm
 have gp : (Aa ((Xd E q).map Int.ofNat))[m]? = some (.v (.int .i64 (((Xd E q)[m] : Nat) : Int))) := Aj (by rw [List.getElem?_map, gE1 hlm]; rfl)
 have hcle := QD E (Xd E q)[m]
 generalize (Xd E q)[m] = c at *
 have gW := Ax hw
 have gW2 : (A7 (W.set c (w - 1)))[c]? = some (.v (.int .i64 (w - 1))) := Ax (gEc (by omega))
 have hb1 : w - 1 <= 1000000 := by omega
 have hb0 : 0 <= w - 1 := by omega
 by_cases he : w = 1
 rotate_left
 ·have d5 : ((w - 1) == 0) = false := by simp; omega
  have hnx := hst1 he
  (refine Wf @d4 ?_;(repeat clear hK K);repeat refine kq fun K hK=>?_)
  refine Wl ?_
  (refine Cr (an @gp (an @Yi (an @List.length_map.{0, 0} (an @A5 (an @hWl (an @gW (an @B3 (an @List.length_set.{0} (an @gW2 @d5))))))))) ?_;(repeat clear hK K);repeat refine kq fun K hK=>?_)
  refine Wm ?_
  (refine We ?_;(repeat clear hK K);repeat refine kq fun K hK=>?_)
  refine Wn ?_
  refine hK _ (m + 1, Q, W.set c (w - 1)) ⟨by simp only; omega, hli, hqg, hnx⟩ (by simp only; omega) ?_
  exact Wo
 have d5 : ((w - 1) == 0) = true := by simp [he]
 have hnx := hst2 he
 (refine Wf @d4 ?_;(repeat clear hK K);repeat refine kq fun K hK=>?_)
 refine Wl ?_
 (refine Cr (an @gp (an @Yi (an @List.length_map.{0, 0} (an @A5 (an @hWl (an @gW (an @B3 (an @List.length_set.{0} (an @gW2 @d5))))))))) ?_;(repeat clear hK K);repeat refine kq fun K hK=>?_)
 refine Wl ?_
 (refine Wf (an @List.length_map.{0, 0} (an @List.set_cons_zero.{0} (an @List.set_cons_succ.{0} (an @List.take_succ_cons.{0} (an @List.take_zero.{0} (an @List.drop_zero.{0} (an @List.length_take.{0} (an @List.length_drop.{0} (an @List.length_append.{0} (an @Yi (an @Az (an @AZ (an @BC (an @A5 (an @B6 (an @AH (an @Bd (an @AM @AY)))))))))))))))))) ?_;(repeat clear hK K);repeat refine kq fun K hK=>?_)
 refine Wn ?_
 refine hK _ (m + 1, Q ++ [c], W.set c (w - 1)) ⟨by simp only; omega, by simp only [List.length_append, List.length_singleton]; omega, ?_, hnx⟩ (by simp only; omega) ?_
 ·simp only
  rw [gE2, gEa hli, <- gE2]
  exact hqg
 refine Le.trans (A8 [0, 3] rfl rfl) ?_
 (try simp only [List.set_nil, List.take_nil, List.take_zero, List.map_append, go_sem])
 (try simp only [Ak])
 have htk2 : (Q.map Int.ofNat).take Q.length = Q.map Int.ofNat := gE7 (by simp)
 simp only [htk2, List.map_append, List.map_cons, List.map_nil, List.length_append, List.length_singleton]
 exact Wo
def Gh.inB (g : Gh) (r0 : Row) : Gh := ⟨g.γ, g.κ, Ow [.r { r0 with cells := r0.cells.map VH }] g⟩
theorem NT {g : Gh} {r0 : Row} (i j : Nat) : ¬ Lv [.r { r0 with cells := r0.cells.map VH }] g (.cl i j) := by
 rintro ⟨r2, k, cs, e1, e2, _⟩
 cases i with
 | succ i => simp at e1
 | zero =>
  simp at e1
  subst e1
  simp only [List.getElem?_map, Option.map_eq_some_iff] at e2
  obtain ⟨c, _, hc⟩ := e2
  exact JU hc
theorem HJ {g : Gh} {r0 : Row} (ℓ : Loc) (hl : Lv [.r { r0 with cells := r0.cells.map VH }] g ℓ) : Lv [.r r0] g ℓ := by
 cases ℓ with
 | cl i j => exact absurd hl (NT i j)
 | ob q =>
  cases q with
  | succ q => rcases hl with ⟨r2, e1, _⟩ | ⟨kv, e1⟩ <;> simp at e1
  | zero =>
   rcases hl with ⟨r2, e1, e2⟩ | ⟨kv, e1⟩
   ·exact .inl ⟨r0, rfl, e2⟩
   simp at e1
theorem QN {g : Gh} {r0 : Row} {w : World} (hr : HR g [.r r0] w) {j n : Nat} {k : Nat × Nat} {cs : List Tr} {y : Value} (hj : r0.cells[j]? = some (.o k cs)) (hy : CR g [.r r0] w (.b 0 j n) y) : CR (g.inB r0) [] w (.t k.1 cs) y := by
 obtain ⟨_, h2⟩ := hy
 obtain ⟨h3, h4, _, _⟩ := h2 r0 k cs rfl hj
 rcases hr.row 0 r0 rfl with ⟨k1, k2⟩ | ⟨k1, k2, arr, k3, k4, k5, k6, k7⟩
 ·rw [k2] at hj; simp at hj
 obtain ⟨u, u1, u2⟩ := k7 j _ hj
 have huy : u = y := by
  rw [cell_of_row w _ j arr _ (0, 0) k3, u1] at h4
  exact Option.some.inj h4
 subst huy
 have h := DN (st := { tm := [], hp := [.r r0], n := 0, pin := 0 }) (t := .l k.1 cs) (hp' := [.r { r0 with cells := r0.cells.map VH }]) (fun b _ ho => ho.imp (fun h => h) (fun ⟨ℓ, hl, e⟩ => ⟨ℓ, HJ ℓ hl, e⟩)) hr rfl (NT 0) HJ hj (.inl rfl) u2
 refine h.mono fun b hb ho => ?_
 rcases ho with ho | ⟨ℓ, hl, _⟩
 ·exact ho
 cases ℓ with
 | ob id => rcases hl with ⟨r, h, _⟩ | ⟨kv, h⟩ <;> simp at h
 | cl id j => obtain ⟨r, k, cs, h, _⟩ := hl; simp at h
theorem FC.inB {P : Program} {f : FuncId} {A A' : List AV} {r0 : Row} {e : TypeId} {Q : List Int -> Prop} (hFC : FC P f A [] (fun r o => ∃ L, Q L /\ r = .a (.c (.s 0 L.length)) /\ o = [.r ⟨e, 1, true, A7 L⟩]))
  (hA : ∀ (g : Gh) (w : World) (vals : List Value), HR g [.r r0] w -> GI g [.r r0] w A' vals -> GI (g.inB r0) [] w A vals) :
  FC P f A' [.r r0] (fun r o => ∃ L, Q L /\ r = .a (.c (.s 1 L.length)) /\ o = [.r r0, .r ⟨e, 1, true, A7 L⟩]) := by
 intro g w vals hr hargs
 have noL : ∀ (g : Gh) (ℓ : Loc), ¬ Lv [] g ℓ := by
  intro g ℓ hl
  cases ℓ with
  | ob id => rcases hl with ⟨r, h, _⟩ | ⟨kv, h⟩ <;> simp at h
  | cl id j => obtain ⟨r, k, cs, h, _⟩ := hl; simp at h
 have how : ∀ b, Ow [] (g.inB r0) b -> Ow [.r r0] g b := fun b ho => by
  rcases ho with (ho | ⟨ℓ, hl, e⟩) | ⟨ℓ, hl, _⟩
  ·exact .inl ho
  ·exact .inr ⟨ℓ, HJ ℓ hl, e⟩
  exact absurd hl (noL _ ℓ)
 have hHR : HR (g.inB r0) [] w := by
  refine ⟨fun b hb => ?_, fun ℓ hl => absurd hl (noL _ ℓ), fun ℓ _ hl => absurd hl (noL _ ℓ), fun id r h => by simp at h, fun id r h => by simp at h, hr.gl.keep (Nat.le_refl _) (fun _ _ _ => rfl) (fun k _ h => how k h)⟩
  rcases hb with hb | ⟨ℓ, hl, e⟩
  ·exact hr.ml b hb
  rw [<- e]; exact hr.lt (HJ ℓ hl)
 refine (hFC (g.inB r0) w vals hHR (hA g w vals hr hargs)).mono ?_
 rintro en w' ⟨v, r, outs, g', rfl, ⟨L, hQ, rfl, rfl⟩, h1, h2, h3, h4, h5⟩
 have hnew : ∀ ℓ, Lv [.r ⟨e, 1, true, A7 L⟩] g' ℓ -> w.heap.size <= g'.γ ℓ := fun ℓ hl => (h3 ℓ hl).elim (fun ⟨ℓ2, hl2, _⟩ => absurd hl2 (noL _ ℓ2)) (fun h => h)
 have hfx : ∀ b, b < w.heap.size -> w'.heap[b]? = w.heap[b]? := fun b hb => h5.block b hb (fun ⟨ℓ, hl, _⟩ => noL _ ℓ hl)
 let g2 : Gh := ⟨fun ℓ => match ℓ with
  | .ob 0 => g.γ (.ob 0)
  | .ob (i + 1) => g'.γ (.ob i)
  | .cl 0 j => g.γ (.cl 0 j)
  | .cl (i + 1) j => g'.γ (.cl i j), fun i => match i with
  | 0 => g.κ 0
  | i + 1 => g'.κ i, g.M⟩
 have split : ∀ ℓ, Lv [.r r0, .r ⟨e, 1, true, A7 L⟩] g2 ℓ -> (Lv [.r r0] g ℓ /\ g2.γ ℓ = g.γ ℓ) \/ ∃ ℓ', Lv [.r ⟨e, 1, true, A7 L⟩] g' ℓ' /\ g2.γ ℓ = g'.γ ℓ' /\ ℓ = (match ℓ' with | .ob i => .ob (i + 1) | .cl i j => .cl (i + 1) j) := by
  intro ℓ hl
  cases ℓ with
  | ob q =>
   cases q with
   | zero =>
    rcases hl with ⟨r2, e1, e2⟩ | ⟨kv, e1⟩
    ·exact .inl ⟨.inl ⟨r2, e1, e2⟩, rfl⟩
    simp at e1
   | succ q =>
    rcases hl with ⟨r2, e1, e2⟩ | ⟨kv, e1⟩
    ·exact .inr ⟨.ob q, .inl ⟨r2, e1, e2⟩, rfl, rfl⟩
    exact .inr ⟨.ob q, .inr ⟨kv, e1⟩, rfl, rfl⟩
  | cl q j =>
   obtain ⟨r2, k, cs, e1, e2, e3⟩ := hl
   cases q with
   | zero => exact .inl ⟨⟨r2, k, cs, e1, e2, e3⟩, rfl⟩
   | succ q => exact .inr ⟨.cl q j, ⟨r2, k, cs, e1, e2, e3⟩, rfl, rfl⟩
 have how2 : ∀ b, b < w.heap.size -> Ow [.r r0, .r ⟨e, 1, true, A7 L⟩] g2 b -> Ow [.r r0] g b := by
  rintro b hb (ho | ⟨ℓ, hl, e⟩)
  ·exact .inl ho
  rcases split ℓ hl with ⟨h6, h7⟩ | ⟨ℓ', h6, h7, _⟩
  ·exact .inr ⟨ℓ, h6, by rw [<- e, h7]⟩
  have := hnew ℓ' h6
  rw [<- e, h7] at hb; omega
 have hmo : Mo g [.r r0] w g2 [.r r0, .r ⟨e, 1, true, A7 L⟩] w' (fun _ => True) := by
  refine ⟨fun q hq => ?_, how2, h5.size, fun b hb _ => hfx b hb, fun q _ hq r2 j k cs e1 e2 => ?_⟩
  ·obtain ⟨o, q1, q2⟩ := hq
   cases q with
   | zero => exact ⟨⟨o, q1, q2⟩, rfl, rfl⟩
   | succ q => simp at q1
  obtain ⟨o, q1, q2⟩ := hq
  cases q with
  | zero =>
   simp at e1
   subst e1
   exact ⟨_, rfl, e2, fun hlt => World.cell?_of_block (hfx _ hlt)⟩
  | succ q => simp at q1
 refine ⟨v, .a (.c (.s 1 L.length)), [.r r0, .r ⟨e, 1, true, A7 L⟩], g2, rfl, ⟨L, hQ, rfl, rfl⟩, ?_, ⟨by simp, rfl, fun i hi => ?_⟩, fun ℓ hl => ?_, ?_, ?_⟩
 rotate_left
 ·have : i = 0 := by simp at hi; exact hi
  subst this
  exact ⟨rfl, rfl⟩
 ·rcases split ℓ hl with ⟨h6, h7⟩ | ⟨ℓ', h6, h7, _⟩
  ·exact .inl ⟨ℓ, h6, h7.symm⟩
  exact .inr (by rw [h7]; exact hnew ℓ' h6)
 ·obtain ⟨b1, b2, A0, b3, b4, b5⟩ := h4
  exact ⟨⟨_, rfl, rfl⟩, b2, A0, b3, b4, b5⟩
 ·exact h5.mono fun k _ ⟨ℓ, hl, _⟩ => absurd hl (noL _ ℓ)
 refine ⟨fun b hb => Nat.lt_of_lt_of_le (hr.ml b hb) h5.size, fun ℓ hl hM => ?_, fun ℓ ℓ' a1 a2 a3 => ?_, fun q r2 e1 => ?_, fun q kv e1 => ?_, hmo.gl hr.gl⟩
 rotate_left 3
 ·cases q with
  | zero => simp at e1
  | succ q =>
   cases q with
   | succ q => simp at e1
   | zero => simp at e1
 ·rcases split ℓ hl with ⟨h6, h7⟩ | ⟨ℓ', h6, h7, _⟩
  ·rw [h7] at hM; exact hr.md ℓ h6 hM
  have b1 := hr.ml _ hM
  have b2 := hnew ℓ' h6
  omega
 ·rcases split ℓ a1 with ⟨c1, c2⟩ | ⟨m, c1, c2, c3⟩ <;> rcases split ℓ' a2 with ⟨d1, d2⟩ | ⟨m', d1, d2, d3⟩
  ·exact hr.inj ℓ ℓ' c1 d1 (by rw [<- c2, <- d2]; exact a3)
  ·have b1 := hr.lt c1
   have b2 := hnew m' d1
   omega
  ·have b1 := hr.lt d1
   have b2 := hnew m c1
   omega
  have := h1.inj m m' c1 d1 (by rw [<- c2, <- d2]; exact a3)
  rw [c3, d3, this]
 cases q with
 | zero =>
  simp at e1
  subst e1
  exact RowR.mo hmo rfl (hr.row 0 r0 rfl) (fun hk => hfx _ (hr.lt (.inl ⟨r0, rfl, hk⟩))) (fun j k cs hc hne => ⟨rfl, hfx _ (hr.lt (ℓ := .cl 0 j) ⟨r0, k, cs, rfl, hc, hne⟩)⟩)
 | succ q =>
  cases q with
  | succ q => simp at e1
  | zero =>
   simp at e1
   subst e1
   rcases h1.row 0 _ rfl with h6 | ⟨k1, k2, arr, k3, k4, k5, k6, k7⟩
   ·exact .inl h6
   refine .inr ⟨k1, k2, arr, k3, k4, k5, k6, fun j c hj => ?_⟩
   obtain ⟨u, u1, u2⟩ := k7 j c hj
   simp only [A7, List.getElem?_map, Option.map_eq_some_iff] at hj
   obtain ⟨x, _, rfl⟩ := hj
   exact ⟨u, u1, u2⟩
theorem JD {P : Program} {g : Gh} {hp : List Ob} {w : World} {t : TypeId} {ty : Ty} {id off : Nat} {r : Row} {k : Nat × Nat} {cs : List Tr} {p : Value} (hr : HR g hp w) (hty : tyOf P t = some ty) (hag : ty.agg = true) (hsz : ty.size = 1) (hp1 : CR g hp w (.p id off) p) (hrow : hp[id]? = some (.r r)) (hcell : r.cells[off]? = some (.o k cs)) (hk : 0 < k.1) :
  ∃ v, (∀ W, Fp (fun _ => False) w W -> (Instr.loadAt t p).run P W = .ok v W) /\ AVR (CR g hp w) (.a (.g [.b id off (cs.length / k.1)])) v := by
 obtain ⟨b1, b2⟩ := hp1
 rw [b2]
 rcases hr.row id r hrow with ⟨_, h2⟩ | ⟨_, _, arr, ha, hl, hs, hm, hcells⟩
 ·rw [h2] at hcell; simp at hcell
 obtain ⟨u, f1, f2⟩ := hcells _ _ hcell
 have hcu : w.cell? ⟨g.γ (.ob id), off, none⟩ = some u := by rw [cell_of_row _ _ _ _ _ _ ha]; exact f1
 refine ⟨.agg #[u], fun W hW => CC hty hag _ off [u] (by rw [hsz]; rfl) (fun j v hj => ?_), [u], rfl, rfl, fun i c hi => ?_⟩
 ·cases j with
  | zero =>
   simp at hj
   subst hj
   exact (hW.cell (p := ⟨_, _, none⟩) (Array.getElem?_eq_some_iff.1 ha).1 (fun h => h)).trans hcu
  | succ j => simp at hj
 cases i with
 | succ i => simp at hi
 | zero =>
  simp at hi
  subst hi
  refine ⟨u, rfl, b1, fun r' k' cs' e1 e2 => ?_⟩
  rw [hrow] at e1; cases e1
  rw [hcell] at e2; cases e2
  refine ⟨(Array.getElem?_eq_some_iff.1 ha).1, hcu, ?_⟩
  rcases f2 with ⟨h1, A, h2, _⟩ | ⟨_, n, cp, arr', h2, h3, _⟩
  ·rw [h1]; simp; exact ⟨_, _, h2⟩
  rw [h3, Nat.mul_div_cancel _ hk]; exact ⟨rfl, _, _, h2⟩
theorem Vd {P : Program} {ops : Array Oper} {o : Oper} {st : ST} {K : ST -> Prop} {stop i : Nat} {past : Bool} {rest : List (Nat × Nat)} {t : TypeId} {y : Operand} {ty : Ty} {id off : Nat} {r : Row} {k : Nat × Nat} {cs : List Tr} (hi : ops[i]? = some o) (hg : o.guard = none) (hd : Vu o st.n = true) (ho : o.op = .load t y) (hty : tyOf P t = some ty) (hag : ty.agg = true) (hsz : ty.size = 1) (hy : st.ev y = .a (.c (.p id off))) (hrow : st.hp[id]? = some (.r r)) (hcell : r.cells[off]? = some (.o k cs)) (hk : 0 < k.1)
  (h : CP P ops stop false past rest (st.put o.dst (.a (.g [.b id off (cs.length / k.1)]))) K) : CP P ops stop false past ((i, 1) :: rest) st K := by
 intro M0 w0 a w w1 Q he hp hR hN
 obtain ⟨g, hpp, hR⟩ := hR
 have hyv := hR.ev y
 rw [hy] at hyv
 obtain ⟨v, h1, h2⟩ := JD hR.hr hty hag hsz hyv hrow hcell hk
 have hw := he rfl
 subst hw
 refine ⟨o, v, hi, .inl ⟨by simp [Region.wanted, hg], fun W hW => ?_⟩, h M0 w0 _ w w Q he hp ⟨g, by cases o.dst <;> exact hpp, hR.put (AU hd) h2⟩ hN⟩
 obtain ⟨dst, op, ty, pos, af, gd⟩ := o
 simp only at ho
 subst ho
 simp [execOp, h1 W hW]
def ZF (A : List (List Ar)) (cm oq : List Int) (dv : List Bool) : Row := ⟨58, 4, false, [.o (1, 41) (Ai A), .o (1, 3) (Aa cm), .o (1, 3) (Aa oq), .o (1, 4) (Xl dv)]⟩
theorem Z7 (R : List (List Ar)) (D oq : List Int) (dv : List Bool) (f rk : Nat -> Nat) (hlo : ∀ r ∈ R, ∀ a ∈ r, 0 <= a.2 /\ a.2 < (R.length : Int)) (htot : AN R <= 1000000) (hDl : D.length = R.length) (hD : ∀ v, v < R.length -> D[v]? = some (f v : Int) /\ f v < R.length) (hE : ∀ e ∈ Xa f R R.length, (e.1 < R.length /\ f e.1 = e.1) /\ e.2 < R.length /\ f e.2 = e.2 /\ rk e.2 < rk e.1) (hn : R.length <= 1000000) (hr : ∀ r ∈ R, r.length <= 1000000) {n m : Nat} : FC Tryz.prog 45 [.a (.g [.b 0 0 n]), .a (.c (.b 0 1 m))] [.r (ZF R D oq dv)] (fun r o => ∃ Q, HB (Xa f R R.length) R.length f Q /\ r = .a (.c (.s 1 Q.length)) /\ o = [.r (ZF R D oq dv), Aw (Q.map Int.ofNat)]) := by
 have h := U1 R D f rk hlo htot hDl hD hE hn hr
 have h2 : FC Tryz.prog 45 [Bh R, Aq D] [] (fun r o => ∃ L, (∃ Q, HB (Xa f R R.length) R.length f Q /\ L = Q.map Int.ofNat) /\ r = .a (.c (.s 0 L.length)) /\ o = [.r ⟨3, 1, true, A7 L⟩]) := h.mono fun r o ⟨Q, h1, h2, h3⟩ => ⟨Q.map Int.ofNat, ⟨Q, h1, rfl⟩, by rw [h2, List.length_map], h3⟩
 refine (FC.inB (A' := [.a (.g [.b 0 0 n]), .a (.c (.b 0 1 m))]) (r0 := ZF R D oq dv) h2 fun g w vals hr ⟨hl, ha⟩ => ⟨hl, fun i x hx => ?_⟩).mono fun r o ⟨L, ⟨Q, h1, e⟩, h2, h3⟩ => ⟨Q, h1, by rw [h2, e, List.length_map], by rw [h3, e]; rfl⟩
 match i, hx with
 | 0, hx =>
  cases hx
  obtain ⟨v, h1, us, h3, h4, h5⟩ := ha 0 _ rfl
  refine ⟨v, h1, us, h3, h4, fun i x hx => ?_⟩
  match i, hx with
  | 0, hx =>
   cases hx
   obtain ⟨u, h6, h7⟩ := h5 0 _ rfl
   exact ⟨u, h6, QN hr rfl h7⟩
  | i + 1, hx => simp at hx
 | 1, hx =>
  cases hx
  obtain ⟨v, h1, h2⟩ := ha 1 _ rfl
  exact ⟨v, h1, (show AVR _ (.a (.c (.t 1 (Aa D)))) v from QN hr (show (ZF R D oq dv).cells[1]? = some (.o (1, 3) (Aa D)) from rfl) h2)⟩
 | i + 2, hx => simp at hx
theorem StpC.f {P : Program} {o : Oper} {st : ST} {K : ST -> Prop} (h : StpC P o st K True) : Un P o st K := fun M0 w0 a w N Q hR hN => h M0 w0 a w N Q hR fun st' a' w' h1 h2 h3 => hN st' a' w' h1 h2 (h3 trivial)
theorem Sa (out : List Ar) (e t : Int) : (As out).take (out.length * 2) ++ [C.v (.int .i64 e), C.v (.int .i64 t)] = As (out ++ [(e, t)]) := by
 rw [gE7 (by rw [Ah]; exact Nat.le_refl _), Br]
theorem L5 {n : Nat} {r : List Ar} {k : Nat} (h : k < r.length) : (Xf n r).take (k + 1) = (Xf n r).take k ++ [(r[k].1, r[k].2 + (n : Int))] := by
 rw [gE8 (by rw [C2]; exact h)]
 simp [Xf]
theorem L6 {n : Nat} {R : List (List Ar)} {k : Nat} (h : k < R.length) : (Xg n R).take (k + 1) = (Xg n R).take k ++ [Xf n R[k]] := by
 rw [gE8 (by rw [Fd]; exact h)]
 simp [Xg]
set_option maxHeartbeats 4000000 in
theorem YK (A R : List (List Ar)) (cm oq : List Int) (dv : List Bool) (hA : A = [] \/ BL A = true) (hv : BL R = true) (hs1 : A.length + R.length <= T3) (hs2 : AN A + AN R <= T4) (hr : ∀ r ∈ R, r.length <= 1000000) (hrA : ∀ r ∈ A, r.length <= 1000000) (hC : CpOk A cm) (hB : DvL A dv) : FC Tryz.prog 34 [.a (.c (.p 0 0)), Bh R] [.r (ZF A cm oq dv)] (fun r o => r = .tup [] /\ ∃ D Q B, CpOk (CL A R) D /\ DvL (CL A R) B /\ HB (Xa (Xh D) (CL A R) (CL A R).length) (CL A R).length (Xh D) Q /\ o = [.r (ZF (CL A R) D (Q.map Int.ofNat) B)]) := by
 refine A9 Tryz.func34 rfl (by rw [Tryz.ntmps34]; simp) ?_
 rw [Tryz.ntmps34]
 simp only [Bz, Bh, ZF]
 have hlo : BK R = true := gEg (gE4 hv).1
 have hmS : T3 = 16384 := rfl
 have hmA : T4 = 262144 := rfl
 (refine Wf @A4 ?_;(repeat clear hK K);repeat refine kq fun K hK=>?_)
 refine A6 (fun s : Nat => { tm := [(0, .a (.c (.p 0 0))), (3, .a (.c (.p 1 0))), (4, .i A.length), (19, .a (.c (.t 1 (Ai R)))), (20, .i R.length), (21, .i s)], hp := [.r (ZF (A ++ (Xg A.length R).take s) cm oq dv), .r ⟨25, 1, false, [.t 1 (Ai R)]⟩], n := 97, pin := 1 }) (fun s => s <= R.length) (fun s => R.length - s) 0 ?_ ?_ ?_
 ·omega
 ·simp only [List.take_zero, List.append_nil, ZF]
  exact Wo
 rintro s hs K hK
 simp only [ZF]
 by_cases hlt : s < R.length
 ·have d1 : decide ((s : Int) < (R.length : Int)) = true := by simpa using hlt
  have hgR := gE1 hlt
  have hrl := hr _ (gE6 hlt)
  have htk := L6 (n := A.length) hlt
  have hbr := fun a ha => (gE4 hlo).2.2.2 _ (gE6 hlt) a ha
  have hol : (A ++ (Xg A.length R).take s).length <= T3 := by rw [List.length_append, List.length_take, Fd]; omega
  have hnx : A ++ (Xg A.length R).take (s + 1) = (A ++ (Xg A.length R).take s) ++ [Xf A.length R[s]] := by rw [htk, List.append_assoc]
  generalize R[s] = row at *
  generalize hO : A ++ (Xg A.length R).take s = O at *
  (refine Wf (an @A4 @d1) ?_;(repeat clear hK K);repeat refine kq fun K hK=>?_)
  refine Wl ?_
  (refine Wf (an @A4 (an (Ac hgR) (an @A3 @Al))) ?_;(repeat clear hK K);repeat refine kq fun K hK=>?_)
  refine Av (Dt 7 40 2 ?_) ?_
  ·simp only [go_sem]
  refine A6 (fun k : Nat => { tm := [(0, .a (.c (.p 0 0))), (3, .a (.c (.p 1 0))), (4, .i A.length), (7, .a (.c (.s 2 k))), (19, .a (.c (.t 1 (Ai R)))), (20, .i R.length), (21, .i s), (25, .a (.c (.t 2 (At row)))), (26, .i row.length), (27, .i k)], hp := [.r (ZF O cm oq dv), .r ⟨25, 1, false, [.t 1 (Ai R)]⟩, .r ⟨40, 2, true, As ((Xf A.length row).take k)⟩], n := 97, pin := 1 }) (fun k => k <= row.length) (fun k => row.length - k) 0 ?_ ?_ ?_
  ·omega
  ·simp only [List.take_zero, ZF]
   exact Wo
  rintro k hk K hK
  simp only [ZF]
  by_cases hlt2 : k < row.length
  ·have d2 : decide ((k : Int) < (row.length : Int)) = true := by simpa using hlt2
   have hat := Be hlt2
   have hsl := C2 A.length row
   have hsk := L5 (n := A.length) hlt2
   have hb := (gE4 hlo).2.2.2
   have hkl : ((Xf A.length row).take k).length = k := by rw [List.length_take, hsl]; omega
   have ca := Sa ((Xf A.length row).take k) row[k].1 (row[k].2 + (A.length : Int))
   rw [hkl, <- hsk] at ca
   have hbk := hbr _ (gE6 hlt2)
   generalize row[k] = a at *
   obtain ⟨e, t⟩ := a
   simp only at hat hbk ca
   (refine Wf @d2 ?_;(repeat clear hK K);repeat refine kq fun K hK=>?_)
   refine Wl ?_
   (refine Cr (an @hat (an @A3 (an @Al (an @Ah (an @hkl @ca))))) ?_;(repeat clear hK K);repeat refine kq fun K hK=>?_)
   refine Wn ?_
   refine hK _ (k + 1) (by omega) (by omega) ?_
   refine Le.trans (A8 [0, 1, 5] rfl rfl) ?_
   (try simp only [List.set_nil, List.take_nil, List.take_zero, List.map_append, go_sem])
   (try simp only [F6])
   simp only [ZF]
   exact Wo
  have d2 : decide ((k : Int) < (row.length : Int)) = false := by simpa using hlt2
  have hke : (Xf A.length row).take k = Xf A.length row := gE7 (by rw [C2]; omega)
  have hkl : (Xf A.length row).length = k := by rw [C2]; omega
  rw [hke]
  (refine Wf @d2 ?_;(repeat clear hK K);repeat refine kq fun K hK=>?_)
  refine Wm ?_
  (refine Wi ?_;repeat clear hK K)
  have hft : (if k * 2 <= (At (Xf A.length row)).length then C.t 2 ((At (Xf A.length row)).take (k * 2)) else C.u) = C.t 2 (At (Xf A.length row)) := by
   rw [if_pos (by rw [A3, hkl]; exact Nat.le_refl _), gE7 (by rw [A3, hkl]; exact Nat.le_refl _)]
  (refine Av (BA (r := ⟨40, 2, true, As (Xf A.length row)⟩) 2 (At (Xf A.length row)) rfl (DA _) (show 0 < (2 : Nat) by omega)) ?_; simp only [ST.frz, A0.frz, AV.frz, C.frz, Nat.le_refl, List.set_cons_zero, List.set_cons_succ, go_sem, hft])
  generalize Xf A.length row = q at *
  (refine Wf (an @A4 (an @List.set_cons_zero.{0} (an @List.set_cons_succ.{0} (an @List.take_succ_cons.{0} (an @List.take_zero.{0} (an @List.drop_zero.{0} (an @List.length_take.{0} (an @List.length_drop.{0} (an @List.length_append.{0} (an @Yi (an @Az (an @AZ (an @BC (an @A5 (an @B6 (an @AH (an @Bd (an @AM @AY)))))))))))))))))) ?_;(repeat clear hK K);repeat refine kq fun K hK=>?_)
  have hcr : (Ai O).map C.ofTr ++ [C.t 2 (At q)] = AC (O ++ [q]) := by simp [AC, Ai, C.ofTr, Function.comp_def]
  refine Wn ?_
  refine hK _ (s + 1) (by omega) (by omega) ?_
  rw [hnx]
  simp only [hcr]
  refine Le.trans (AR (r := ⟨41, 1, true, AC (O ++ [q])⟩) (ri := ⟨58, 4, false, [.s 4 (O.length + 1), .o (1, 3) (Aa cm), .o (1, 3) (Aa oq), .o (1, 4) (Xl dv)]⟩) (ts := Ai (O ++ [q])) 0 0 4 (O.length + 1) (by decide) rfl rfl rfl rfl (show 0 < 1 by omega) (by rw [Af]; simp) (Ee _)) ?_
  simp only [go_sem]
  refine Le.trans (A8 [0, 1] rfl rfl) ?_
  (try simp only [List.set_nil, List.take_nil, List.take_zero, List.map_append, go_sem])
  simp only [ZF]
  exact Wo
 have d1 : decide ((s : Int) < (R.length : Int)) = false := by simpa using hlt
 have hse : A ++ (Xg A.length R).take s = CL A R := by rw [gE7 (by rw [Fd]; omega)]; rfl
 have hvW := Nq hA hv hs1 hs2
 have h1 : 1 <= R.length := (gE4 hlo).1
 rw [hse]
 (refine Wf @d1 ?_;(repeat clear hK K);repeat refine kq fun K hK=>?_)
 refine Wm ?_
 (refine Wi ?_;repeat clear hK K)
 (refine We ?_;(repeat clear hK K);repeat refine kq fun K hK=>?_)
 (refine Wj (KO R true hv h1 (by omega) hr) ?_; intro K1 hK1)
 rintro _ _ ⟨D, hD, rfl, rfl⟩
 have hAl : ∀ x, x < A.length -> ∀ y ∈ WG true A x, y < A.length := by
  rcases hA with rfl | hA
  ·intro x hx; simp at hx
  exact Ct true (gEg (gE4 hA).1)
 have hDb := hC.both hAl hlo hD
 have hcl : cm.length = A.length := hC.1
 have hDl := hD.1
 (refine Wk ?_; clear hK1 K1)
 (refine Wf (an @Yi @hDl) ?_;(repeat clear hK K);repeat refine kq fun K hK=>?_)
 refine A6 (fun k : Nat => { tm := [(0, .a (.c (.p 0 0))), (3, .a (.c (.p 1 0))), (4, .i A.length), (56, .a (.c (.t 1 (Aa D)))), (57, .i R.length), (58, .i k)], hp := [.r (ZF (CL A R) (cm ++ (D.map (· + (A.length : Int))).take k) oq dv), .r ⟨25, 1, false, [.t 1 (Ai R)]⟩], n := 97, pin := 1 }) (fun k => k <= R.length) (fun k => R.length - k) 0 ?_ ?_ ?_
 ·omega
 ·simp only [List.take_zero, List.append_nil, ZF]
  exact Wo
 clear hs hlt d1 hse
 rintro k hk K hK
 simp only [ZF]
 by_cases hlt : k < R.length
 ·have d2 : decide ((k : Int) < (R.length : Int)) = true := by simpa using hlt
  have hkD : k < D.length := by omega
  have gD := Aj (gE1 hkD)
  have hsn : cm ++ (D.map (· + (A.length : Int))).take (k + 1) = (cm ++ (D.map (· + (A.length : Int))).take k) ++ [D[k] + (A.length : Int)] := by
   rw [gE8 (by rw [List.length_map]; exact hkD), <- List.append_assoc]; simp
  have hbd : 0 <= D[k] /\ D[k] < (R.length : Int) := by
   have := BR hv hD hlt
   rw [gE1 hkD] at this
   have h3 := Option.some.inj this.1
   omega
  have hol : (cm ++ (D.map (· + (A.length : Int))).take k).length <= 1000000 := by rw [List.length_append, List.length_take, List.length_map]; omega
  generalize D[k] = x at *
  generalize cm ++ (D.map (· + (A.length : Int))).take k = O at *
  (refine Wf @d2 ?_;(repeat clear hK K);repeat refine kq fun K hK=>?_)
  refine Wl ?_
  (refine Wf (an @gD (an @Yi (an @hDl (an @List.set_cons_zero.{0} (an @List.set_cons_succ.{0} (an @List.take_succ_cons.{0} (an @List.take_zero.{0} (an @List.drop_zero.{0} (an @List.length_take.{0} (an @List.length_drop.{0} (an @List.length_append.{0} (an @Yi (an @Az (an @AZ (an @BC (an @A5 (an @B6 (an @AH (an @Bd (an @AM @AY)))))))))))))))))))) ?_;(repeat clear hK K);repeat refine kq fun K hK=>?_)
  refine Wn ?_
  refine hK _ (k + 1) (by omega) (by omega) ?_
  rw [hsn]
  refine Le.trans (AR (r := ⟨3, 1, true, A7 (O ++ [x + (A.length : Int)])⟩) (ri := ⟨58, 4, false, [.o (1, 41) (Ai (CL A R)), .s 3 (O.length + 1), .o (1, 3) (Aa oq), .o (1, 4) (Xl dv)]⟩) (ts := Aa (O ++ [x + (A.length : Int)])) 0 1 3 (O.length + 1) (by decide) rfl rfl rfl rfl (show 0 < 1 by omega) (by rw [A5]; simp) (Gd _)) ?_
  simp only [go_sem]
  refine Le.trans (A8 [0, 1] rfl rfl) ?_
  (try simp only [List.set_nil, List.take_nil, List.take_zero, List.map_append, go_sem])
  simp only [ZF]
  exact Wo
 have d2 : decide ((k : Int) < (R.length : Int)) = false := by simpa using hlt
 have hse : (D.map (· + (A.length : Int))).take k = D.map (· + (A.length : Int)) := gE7 (by rw [List.length_map]; omega)
 rw [hse]
 have hDbl := hDb.1
 have hWlo : BK (CL A R) = true := gEg (gE4 hvW).1
 have hWl := Ck A R
 have hWr : ∀ r ∈ CL A R, r.length <= 1000000 := fun r hr2 => by
  rcases List.mem_append.1 hr2 with h | h
  ·exact hrA r h
  obtain ⟨q, hq, rfl⟩ := List.mem_map.1 h
  rw [C2]; exact hr q hq
 have hWt : AN (CL A R) <= 1000000 := by have := (gE4 hWlo).2.2.1; omega
 have hord := fun B n m => Z7 (CL A R) (cm ++ D.map (· + (A.length : Int))) oq B (Xh (cm ++ D.map (· + (A.length : Int)))) (Xi (CL A R)) (n := n) (m := m) (fun r h a ha => by have := (gE4 hWlo).2.2.2 r h a ha; exact ⟨this.2.2.1, this.2.2.2⟩) hWt hDbl (fun v hv => ⟨(BR hvW hDb hv).1, (BR hvW hDb hv).2.1⟩) (PA hvW hDb) (by omega) hWr
 have hdvl := hB.1
 generalize cm ++ D.map (· + (A.length : Int)) = E at *
 (refine Wf @d2 ?_;(repeat clear hK K);repeat refine kq fun K hK=>?_)
 refine Wm ?_
 (refine Wi ?_;repeat clear hK K)
 (refine We ?_;(repeat clear hK K);repeat refine kq fun K hK=>?_)
 (refine AD [] (.m 0 0 0 (.m 1 0 0 (.m 2 0 0 (.m 3 0 0 (.m 4 1 7 (.m 5 1 6 (.a 6 (.a 7 (.m 8 0 0 (.m 9 0 0 (.a 10 .e))))))))))) (by kernel_rfl) (by kernel_rfl) (by intro c st h; simp [Ae, AJ, VD] at h) ?_)
 (refine Wh @Bw ?_; repeat clear hK K)
 (refine W4 rfl rfl ?_; intro K1 hK1; refine StpC.f (A2 (ids := []) (Nx R hv (by omega) hr) rfl rfl (by simp only [go_sem]) (by kernel_rfl) (by (simp only [List.append_nil, go_sem]) <;> rfl) ?_))
 rintro _ _ ⟨B, hBR, rfl, rfl⟩
 have hBl := hBR.1
 (refine Wk ?_; clear hK1 K1)
 (refine EY rfl rfl rfl ?_; intro K1 hK1; refine CF rfl rfl rfl rfl (by first | rfl | simp only [CM, List.getD_cons_zero, List.getD_cons_succ, hne, List.isEmpty_cons, Bool.not_false, Bool.true_and, Bool.and_true, Bool.and_self]) rfl ?_; simp only [go_sem, Bw, List.set_cons_zero, List.set_cons_succ, List.take_succ_cons, List.take_zero, List.drop_zero, List.length_take, List.length_drop, List.length_append, Yi, Az, AZ, BC, A5, B6, AH, Bd, AM, AY]; (first | refine hK1 _ ?_ | refine AE (hK1 _ ?_)); clear hK1 K1)
 (refine Wh @Bw ?_; repeat clear hK K)
 (refine W5 rfl rfl rfl rfl ?_; intro K1 hK1; refine B4 rfl ?_; simp only [go_sem]; (first | refine hK1 _ ?_ | refine AE (hK1 _ ?_)); clear hK1 K1)
 refine Cg ⟨by simp, by simp, ?_⟩
 (try simp only [Ae, AJ])
 refine hK _ ?_
 clear hK K
 have hcb : (Xl dv).map C.ofTr ++ (Xl B).map C.ofTr = WP (dv ++ B) := by simp [WP, Xl, C.ofTr, Function.comp_def]
 have hBb := hB.both hAl hlo hBR
 have hcBl : (WP (dv ++ B)).length = dv.length + B.length := by simp [WP]
 simp only [hcb]
 generalize dv ++ B = Z at *
 refine Av (AR (r := ⟨4, 1, true, WP Z⟩) (ri := ⟨58, 4, false, [.o (1, 41) (Ai (CL A R)), .o (1, 3) (Aa E), .o (1, 3) (Aa oq), .s 2 (dv.length + B.length)]⟩) (ts := Xl Z) 0 3 2 (dv.length + B.length) (by decide) rfl rfl rfl rfl (show 0 < 1 by omega) (by rw [hcBl, Nat.mul_one]) (Nw _)) ?_
 simp only [go_sem]
 refine Av (A8 [0] rfl rfl) ?_
 (try simp only [List.set_nil, List.take_nil, List.take_zero, List.map_append, go_sem])
 (refine Ao 9 [(0, 0), (1, 0), (2, 0), (3, 0), (4, 1), (5, 0), (6, 0), (7, 0), (8, 1), (9, 2), (10, 0), (11, 0), (12, 2)] (by kernel_rfl) (by kernel_rfl) (by intro c st h; simp [Ae, AJ, VD] at h) ?_)
 (refine Wa ?_; repeat clear hK K)
 (refine Vd (id := 0) (off := 0) (k := (1, 41)) (cs := Ai (CL A R)) rfl rfl rfl rfl ty25 rfl rfl (by simp only [go_sem]) rfl rfl (show 0 < 1 by omega) ?_; simp only [go_sem, A4])
 (refine Wb @Yi ?_; repeat clear hK K)
 (refine VM rfl rfl rfl ?_; intro K1 hK1; refine AX (ids := []) [0] (hord Z (CL A R).length E.length) rfl rfl (by simp only [go_sem]) (by first | assumption | kernel_rfl) rfl rfl (by (simp only [List.map_append, List.append_nil, go_sem]) <;> rfl) (by (simp only [VC, ZF, go_sem]) <;> rfl) ?_ ?_)
 ·rintro _ _ ⟨Q, h1, rfl, rfl⟩; rfl
 rintro _ _ ⟨Q, hQ, rfl, rfl⟩
 simp only [ZF, Aw]
 (simp only [Aq, Bc, CT, List.append_nil, List.nil_append, List.length_map, go_sem]; refine hK1 _ ?_; clear hK1 K1)
 (refine Wa ?_; repeat clear hK K)
 refine Ie ?_
 (try simp only [Ae, AJ])
 refine Bm (AR (r := ⟨3, 1, true, A7 (Q.map Int.ofNat)⟩) (ri := ⟨58, 4, false, [.o (1, 41) (Ai (CL A R)), .o (1, 3) (Aa E), .s 1 Q.length, .o (1, 4) (Xl Z)]⟩) (ts := Aa (Q.map Int.ofNat)) 0 2 1 Q.length (by decide) rfl rfl rfl rfl (show 0 < 1 by omega) (by rw [A5]; simp) (Gd _)) ?_
 simp only [go_sem]
 refine Wp [0] Tryz.results34 ?_
 exact ⟨E, Q, Z, hDb, hBb, hQ, rfl⟩
end Go.Proofs.YthnkailnoobdoaaGreatDoor
namespace Go.Proofs.YthnkailnoobdoaaGreatDoor
set_option linter.unusedVariables false
set_option linter.unusedSimpArgs false
open Go.RowKit
set_option maxRecDepth 100000
theorem Oi (a b : Ar) : FC Tryz.prog 95 [.a (.g [.v (.int .i64 a.1), .v (.int .i64 a.2)]), .a (.g [.v (.int .i64 b.1), .v (.int .i64 b.2)])] [] (fun r o => o = [] /\ r = .i (Gb a b)) := by
 refine A9 Tryz.func95 rfl (by rw [Tryz.ntmps95]; simp) ?_
 rw [Tryz.ntmps95]
 simp only [Bz]
 (refine Wf (an @List.set_cons_zero.{0} @List.set_cons_succ.{0}) ?_;(repeat clear hK K);repeat refine kq fun K hK=>?_)
 (refine BJ [] [(0, 0, 0), (2, 0, 0), (5, 0, 0), (7, 0, 0), (1, 1, 4), (3, 1, 4), (6, 1, 9), (8, 1, 9), (4, 2, 0), (9, 2, 0), (10, 2, 0), (11, 2, 0), (12, 2, 0)] (by kernel_rfl) (by kernel_rfl) (by intro c st h; simp [Ae, AJ, VD] at h) ?_)
 (refine Wc ?_; repeat clear hK K)
 (refine W0 rfl rfl ?_; intro K1 hK1; refine Au ?_; refine xv [] (Ka a.1 b.1) ?_ ?_)
 ·rintro _ _ ⟨rfl, rfl⟩ i o hi hl; simp at hl
 rintro _ _ ⟨rfl, rfl⟩
 (refine Wk ?_; clear hK1 K1)
 (refine Wc ?_; repeat clear hK K)
 (refine W0 rfl rfl ?_; intro K1 hK1; refine Au ?_; refine xv [] (Ka a.2 b.2) ?_ ?_)
 ·rintro _ _ ⟨rfl, rfl⟩ i o hi hl; simp at hl
 rintro _ _ ⟨rfl, rfl⟩
 (refine Wk ?_; clear hK1 K1)
 (refine Wc ?_; repeat clear hK K)
 (refine W1 rfl rfl rfl ?_; intro K1 hK1; refine B4 rfl ?_; simp only [go_sem, List.set_cons_zero, List.set_cons_succ]; (first | refine hK1 _ ?_ | refine AE (hK1 _ ?_)); clear hK1 K1)
 (refine UY (BA (r := ⟨3, 1, true, A7 [Fy a.1 b.1, Fy a.2 b.2]⟩) 2 (Aa [Fy a.1 b.1, Fy a.2 b.2]) rfl (Gd _) (show 0 < (1 : Nat) by omega)) ?_; simp only [ST.frz, A0.frz, AV.frz, C.frz, Nat.le_refl, List.set_cons_zero, List.set_cons_succ, go_sem, Yi, Az, List.length_cons, List.length_nil, List.take_succ_cons, List.take_zero])
 (refine Wc ?_; repeat clear hK K)
 (refine W0 rfl rfl ?_; intro K1 hK1; refine Au ?_; refine BG (ids := []) [] (Kj [Fy a.1 b.1, Fy a.2 b.2] (by simp)) rfl rfl (by simp only [go_sem]) (by kernel_rfl) rfl rfl rfl (by (simp only [List.map_append, List.append_nil, go_sem]) <;> rfl) (by (simp only [VC, Aq, go_sem]) <;> rfl) ?_ ?_)
 ·rintro _ _ ⟨rfl, rfl⟩ i o hi hl; simp at hl
 rintro _ _ ⟨rfl, rfl⟩
 (refine Wk ?_; clear hK1 K1)
 (refine W1 rfl rfl rfl ?_; intro K1 hK1; refine B4 rfl ?_; simp only [go_sem]; (first | refine hK1 _ ?_ | refine AE (hK1 _ ?_)); clear hK1 K1)
 (refine Wc ?_; repeat clear hK K)
 refine Wp [] Tryz.results95 ?_
 rw [MT]
theorem Z8 (a b : Ar) : FC Tryz.prog 82 [.a (.g [.v (.int .i64 a.1), .v (.int .i64 a.2)]), .a (.g [.v (.int .i64 b.1), .v (.int .i64 b.2)])] [] (fun r o => o = [] /\ r = .i (Gb a b)) := by
 refine A9 Tryz.func82 rfl (by rw [Tryz.ntmps82]; simp) ?_
 rw [Tryz.ntmps82]
 simp only [Bz]
 (refine Wf (an @List.set_cons_zero.{0} @List.set_cons_succ.{0}) ?_;(repeat clear hK K);repeat refine kq fun K hK=>?_)
 (refine BJ [] [(0, 0, 0), (2, 0, 0), (5, 0, 0), (7, 0, 0), (1, 1, 4), (3, 1, 4), (6, 1, 9), (8, 1, 9), (4, 2, 0), (9, 2, 0), (10, 2, 0), (11, 2, 0), (12, 2, 0)] (by kernel_rfl) (by kernel_rfl) (by intro c st h; simp [Ae, AJ, VD] at h) ?_)
 (refine Wc ?_; repeat clear hK K)
 (refine W0 rfl rfl ?_; intro K1 hK1; refine Au ?_; refine xv [] (Ka a.1 b.1) ?_ ?_)
 ·rintro _ _ ⟨rfl, rfl⟩ i o hi hl; simp at hl
 rintro _ _ ⟨rfl, rfl⟩
 (refine Wk ?_; clear hK1 K1)
 (refine Wc ?_; repeat clear hK K)
 (refine W0 rfl rfl ?_; intro K1 hK1; refine Au ?_; refine xv [] (Ka a.2 b.2) ?_ ?_)
 ·rintro _ _ ⟨rfl, rfl⟩ i o hi hl; simp at hl
 rintro _ _ ⟨rfl, rfl⟩
 (refine Wk ?_; clear hK1 K1)
 (refine Wc ?_; repeat clear hK K)
 (refine W1 rfl rfl rfl ?_; intro K1 hK1; refine B4 rfl ?_; simp only [go_sem, List.set_cons_zero, List.set_cons_succ]; (first | refine hK1 _ ?_ | refine AE (hK1 _ ?_)); clear hK1 K1)
 (refine UY (BA (r := ⟨3, 1, true, A7 [Fy a.1 b.1, Fy a.2 b.2]⟩) 2 (Aa [Fy a.1 b.1, Fy a.2 b.2]) rfl (Gd _) (show 0 < (1 : Nat) by omega)) ?_; simp only [ST.frz, A0.frz, AV.frz, C.frz, Nat.le_refl, List.set_cons_zero, List.set_cons_succ, go_sem, Yi, Az, List.length_cons, List.length_nil, List.take_succ_cons, List.take_zero])
 (refine Wc ?_; repeat clear hK K)
 (refine W0 rfl rfl ?_; intro K1 hK1; refine Au ?_; refine BG (ids := []) [] (Kj [Fy a.1 b.1, Fy a.2 b.2] (by simp)) rfl rfl (by simp only [go_sem]) (by kernel_rfl) rfl rfl rfl (by (simp only [List.map_append, List.append_nil, go_sem]) <;> rfl) (by (simp only [VC, Aq, go_sem]) <;> rfl) ?_ ?_)
 ·rintro _ _ ⟨rfl, rfl⟩ i o hi hl; simp at hl
 rintro _ _ ⟨rfl, rfl⟩
 (refine Wk ?_; clear hK1 K1)
 (refine W1 rfl rfl rfl ?_; intro K1 hK1; refine B4 rfl ?_; simp only [go_sem]; (first | refine hK1 _ ?_ | refine AE (hK1 _ ?_)); clear hK1 K1)
 (refine Wc ?_; repeat clear hK K)
 refine Wp [] Tryz.results82 ?_
 rw [MT]
end Go.Proofs.YthnkailnoobdoaaGreatDoor
