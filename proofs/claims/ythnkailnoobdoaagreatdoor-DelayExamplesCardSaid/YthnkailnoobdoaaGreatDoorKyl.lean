/- Lemmas. -/
import Derived.Test.YthnkailnoobdoaaGreatDoorG53
import Derived.Test.YthnkailnoobdoaaGreatDoorZk
import Derived.Test.YthnkailnoobdoaaGreatDoorG80
import Derived.Test.YthnkailnoobdoaaGreatDoorMnt
import Derived.Test.YthnkailnoobdoaaGreatDoorG11
import Derived.Test.YthnkailnoobdoaaGreatDoorOd1
namespace Go.Proofs.YthnkailnoobdoaaGreatDoor
set_option linter.unusedVariables false
set_option linter.unusedSimpArgs false
open Go.RowKit
set_option maxRecDepth 100000

def XX : Value := .string { data := #[100, 105, 118, 101, 114, 103, 101, 110, 116] }
def XY : Value := .string { data := #[] }
theorem U5 (ky : List Value) (f : Nat -> Nat) : (XI ky).map (C.up f) = XI ky := by simp [XI, C.up, Function.comp_def]
def ZI (nk ky : List Value) (k : Nat) : List Value := nk.take k ++ ky.drop k
theorem Zb {nk ky : List Value} (h : nk.length = ky.length) {k : Nat} (hk : k <= nk.length) : (ZI nk ky k).length = nk.length := by unfold ZI; rw [List.length_append, List.length_take, List.length_drop]; omega
theorem Zc {nk ky : List Value} (h : nk.length = ky.length) {k : Nat} {v : Value} (hv : nk[k]? = some v) : (ZI nk ky k).set k v = ZI nk ky (k + 1) := by
 have hk := (List.getElem?_eq_some_iff.1 hv).1
 have hv2 := (List.getElem?_eq_some_iff.1 hv).2
 unfold ZI
 rw [List.set_append_right _ _ (by rw [List.length_take]; omega), List.length_take, show k - min k nk.length = 0 from by omega, List.drop_eq_getElem_cons (by omega : k < ky.length), List.set_cons_zero, gE8 hk, hv2, List.append_assoc]
 rfl
theorem Sp {a b c : ST} (h : Le a b) (k : Le b c) : Le a c := h.trans k
theorem ZJ (L : List Int) (x y : Int) : (A7 L).take L.length ++ [C.v (.int .i64 x), C.v (.int .i64 y)] = A7 (L ++ [x, y]) := by
 rw [gE7 (by rw [A5]; exact Nat.le_refl _)]; simp [A7]
attribute [local go_sem] lga C.pl C.one
set_option maxHeartbeats 8000000 in
theorem Z1 (X : List (List Ar)) (D : List Int) (Q : List Nat) (dv : List Bool) (hv : BL X = true) (hn : X.length <= 100) (ht : AN X <= 1000) (hr : ∀ r ∈ X, r.length <= 1000000) (hD : CpOk X D) (hQ : HB (Xa (Xh D) X X.length) X.length (Xh D) Q) (hB : DvL X dv) : FC Tryz.prog 35 [.a (.c (.p 0 0))] [.r (ZG X D (Q.map Int.ofNat) dv)] (fun r o => ∃ c, DlC X c /\ Nrm X.length c /\ r = Aq c /\ o = [.r (ZG X D (Q.map Int.ofNat) dv)]) := by
 refine A9 Tryz.func35 rfl (by rw [Tryz.ntmps35]; simp) ?_
 rw [Tryz.ntmps35]
 have hlo : BK X = true := gEg (gE4 hv).1
 have h1 : 1 <= X.length := (gE4 hlo).1
 have hDl := hD.1
 have hBl := hB.1
 simp only [Bz, ZG]
 (refine Wf (an @A4 (an @Bw @hBl)) ?_;(repeat clear hK K);repeat refine kq fun K hK=>?_)
 have e0 : List.replicate X.length (C.v (.string { data := #[] })) = XI (XJ XX XY dv X.length 0) := by rw [PM]; simp [XI, XY]
 rw [e0]
 refine A6 (fun k : Nat => { tm := [(0, .a (.c (.p 0 0))), (3, .a (.c (.s 1 X.length))), (25, .a (.c (.t 1 (Xl dv)))), (26, .i X.length), (27, .i k)], hp := [.r (ZG X D (Q.map Int.ofNat) dv), .r ⟨9, 1, true, XI (XJ XX XY dv X.length k)⟩], n := 93, pin := 1 }) (fun k => k <= X.length) (fun k => X.length - k) 0 ?_ ?_ ?_
 ·omega
 ·simp only [ZG]
  exact Wo
 rintro k hk K hK
 simp only [ZG]
 by_cases hlt : k < X.length
 ·have d1 : decide ((k : Int) < (X.length : Int)) = true := by simpa using hlt
  have gB : (Xl dv)[k]? = some (.v (.bool (dv.getD k false))) := Ff (by rw [gE2, gE1 (by omega)]; rfl)
  have hkt := PN (kd := XX) (ke := XY) (B := dv) (n := X.length) (k := k)
  have hkf := NH (kd := XX) (ke := XY) (B := dv) (n := X.length) (k := k)
  have hkl := HF XX XY dv X.length k
  generalize dv.getD k false = b at *
  (refine Wf @d1 ?_;(repeat clear hK K);repeat refine kq fun K hK=>?_)
  refine Wl ?_
  (refine Wf (an @Bw (an @hBl @gB)) ?_;(repeat clear hK K);repeat refine kq fun K hK=>?_)
  cases b with
  | true =>
   have hkt := hkt rfl
   refine Wl ?_
   have hks : (XI (XJ XX XY dv X.length k)).set k (C.v (Value.string { data := #[100, 105, 118, 101, 114, 103, 101, 110, 116] })) = XI (XJ XX XY dv X.length (k + 1)) := by rw [<- hkt]; exact JA _ _ _
   (refine Cr (an @Gu (an @hkl @hks)) ?_;(repeat clear hK K);repeat refine kq fun K hK=>?_)
   refine Wn ?_
   refine hK _ (k + 1) (by omega) (by omega) ?_
   simp only [ZG]
   exact Wo
  | false =>
   have hkf := hkf rfl
   refine Wm ?_
   (refine We ?_;(repeat clear hK K);repeat refine kq fun K hK=>?_)
   refine Wn ?_
   refine hK _ (k + 1) (by omega) (by omega) ?_
   rw [hkf]
   simp only [ZG]
   exact Wo
 have d1 : decide ((k : Int) < (X.length : Int)) = false := by simpa using hlt
 have hke : k = X.length := by omega
 rw [hke] at d1
 rw [hke]
 have hko := TV (kd := XX) (ke := XY) (by kernel_rfl) (by kernel_rfl) (by kernel_rfl) (by kernel_rfl) dv X.length
 have hkl := HF XX XY dv X.length X.length
 have hpf := YH (XJ XX XY dv X.length X.length) (fun s => dv.getD s false) hko (by omega)
 obtain ⟨hnm, _⟩ := Tz (B := dv) X.length h1
 have hN0 := Jq dv h1
 have hc0 : F3 X.length (X7 dv X.length) = (Ww (fun s => dv.getD s false) X.length).2 := by rw [<- hnm, MO]
 have hc1 : 1 <= (Ww (fun s => dv.getD s false) X.length).2 := by
  have := (Ca (fun s => dv.getD s false) X.length).rng 0 (by omega)
  omega
 rw [hkl, hnm, <- hc0] at hpf
 rw [<- hc0] at hc1
 clear hnm hc0
 generalize XJ XX XY dv X.length X.length = ky0 at *
 generalize hc00 : X7 dv X.length = c0 at *
 have hN0l := hN0.len
 (refine Wf @d1 ?_;(repeat clear hK K);repeat refine kq fun K hK=>?_)
 refine Wm ?_
 (refine Wi ?_;repeat clear hK K)
 (refine We ?_;(repeat clear hK K);repeat refine kq fun K hK=>?_)
 (refine Ad rfl ?_; intro K1 hK1; refine AX (ids := []) [1] (hpf) rfl rfl (by simp only [go_sem]) (by first | assumption | kernel_rfl) rfl rfl (by (simp only [List.map_append, List.append_nil, go_sem]) <;> rfl) (by (simp only [VC, Fi, go_sem]) <;> rfl) ?_ ?_)
 ·rintro _ _ ⟨rfl, rfl⟩; rfl
 rintro _ _ ⟨rfl, rfl⟩
 simp only [Aw]
 (simp only [Aq, Bc, CT, U5, List.append_nil, List.nil_append, List.length_map, go_sem]; refine hK1 _ ?_; clear hK1 K1)
 (refine We ?_;(repeat clear hK K);repeat refine kq fun K hK=>?_)
 have hSb := RC hv hn
 have hSl := hSb.1
 have hf0 : (if X.length <= (Aa c0).length then C.t 1 ((Aa c0).take X.length) else C.u) = C.t 1 (Aa c0) := by rw [if_pos (by rw [Yi]; omega), gE7 (by rw [Yi]; omega)]
 (refine Av (BA (r := ⟨3, 1, true, A7 c0⟩) 2 (Aa c0) rfl (Gd _) (show 0 < (1 : Nat) by omega)) ?_; simp only [ST.frz, A0.frz, AV.frz, C.frz, Nat.le_refl, List.set_cons_zero, List.set_cons_succ, go_sem, hf0])
 refine A6 (fun x : Nat × Nat × List Int × List Value => { tm := [(0, .a (.c (.p 0 0))), (3, .a (.c (.s 1 X.length))), (6, .a (.c (.t 1 (Aa x.2.2.1)))), (7, .i (F3 X.length x.2.2.1)), (8, .i x.2.1)], hp := [.r (ZG X D (Q.map Int.ofNat) dv), .r ⟨9, 1, true, XI x.2.2.2⟩], n := 93, pin := 1 }) (fun x => x.2.2.1 = WB (H5 X) c0 x.1 /\ Nrm X.length x.2.2.1 /\ x.2.2.2.length = X.length /\ x.2.1 <= F3 X.length x.2.2.1 /\ (x.2.1 = F3 X.length x.2.2.1 -> Wz (H5 X) x.2.2.1 = x.2.2.1)) (fun x => X.length + 1 - x.2.1) (0, 0, c0, ky0) ?_ ?_ ?_
 ·exact ⟨rfl, hN0, hkl, Nat.zero_le _, fun h => by simp only at h; omega⟩
 ·refine Le.trans (A8 [0, 1] rfl rfl) ?_
  (try simp only [List.set_nil, List.take_nil, List.take_zero, List.map_append, go_sem])
  (try simp only [Fi])
  simp only [ZG]
  exact Wo
 clear hk hlt d1 hke hpf hko
 rintro ⟨j, bf, nw, ky⟩ ⟨hit, hN, hkyl, hbf, hfx⟩ K hK
 simp only at hit hN hkyl hbf hfx
 simp only [ZG]
 have hcn := Kf X.length nw
 have hNl := hN.len
 by_cases hlt : bf < F3 X.length nw
 rotate_left
 ·have d1 : decide ((bf : Int) < ((F3 X.length nw : Nat) : Int)) = false := by simpa using hlt
  have hfx2 := hfx (by omega)
  (refine Wf @d1 ?_;(repeat clear hK K);repeat refine kq fun K hK=>?_)
  refine Wm ?_
  (refine Wi ?_;repeat clear hK K)
  (refine We ?_;(repeat clear hK K);repeat refine kq fun K hK=>?_)
  ((try refine AF ?_); (try simp only [Ae, AJ]); refine Bm (A8 [0] rfl rfl) ?_; (try simp only [List.set_nil, List.take_nil, List.take_zero, List.map_append, go_sem]); ((try refine AF ?_); (try refine Ab ?_); (try simp only [Ae, AJ]); refine BE (by first | exact .inl rfl | exact .inr rfl) rfl ?_; simp only [VE, EO, Em, EU, Tryz.results35, go_sem, true_and, and_true, Aq]))
  exact ⟨nw, ⟨dv, hB, j, by rw [hc00]; exact hit, hfx2⟩, hN, rfl⟩
 have d1 : decide ((bf : Int) < ((F3 X.length nw : Nat) : Int)) = true := by simpa using hlt
 have hnn := MP (H5 X) nw
 have hnl := Tt (S := H5 X) (by rw [hSl]; exact hN)
 rw [hSl] at hnn hnl
 have hcn2 := Kf X.length (Wz (H5 X) nw)
 have hnc : F3 X.length (Wz (H5 X) nw) = (Ww (Wy (H5 X) nw) X.length).2 := by
  have := MO (Wy (H5 X) nw) X.length
  unfold Wz; rw [hSl]; exact this
 have hnc1 : (Ww (Wy (H5 X) nw) X.length).1 = Wz (H5 X) nw := by unfold Wz; rw [hSl]
 (refine Wf @d1 ?_;(repeat clear hK K);repeat refine kq fun K hK=>?_)
 refine Wl ?_
 (refine We ?_;(repeat clear hK K);repeat refine kq fun K hK=>?_)
 (refine Ad rfl ?_; intro K1 hK1; refine AX (ids := []) [0] (Zk X D nw Q dv hv hn ht hr hD hQ hNl) rfl rfl (by simp only [go_sem]) (by first | assumption | kernel_rfl) rfl rfl (by (simp only [List.map_append, List.append_nil, go_sem]) <;> rfl) (by (simp only [VC, ZG, go_sem]) <;> rfl) ?_ ?_)
 ·rintro _ _ ⟨O, _, rfl, rfl⟩; rfl
 rintro _ _ ⟨O, hP, rfl, rfl⟩
 simp only [ZG]
 (simp only [Aq, Bc, AL, List.append_nil, List.nil_append, List.length_map, go_sem]; refine hK1 _ ?_; clear hK1 K1)
 have hOl := hP.len
 have hfo : (if X.length <= (Ai O).length then C.t 1 ((Ai O).take X.length) else C.u) = C.t 1 (Ai O) := by rw [if_pos (by rw [A4]; omega), gE7 (by rw [A4]; omega)]
 (refine Wf (an @Yi @hDl) ?_;(repeat clear hK K);repeat refine kq fun K hK=>?_)
 (refine Av (BA (r := ⟨81, 1, true, AC O⟩) 2 (Ai O) rfl (Ee _) (show 0 < (1 : Nat) by omega)) ?_; simp only [ST.frz, A0.frz, AV.frz, C.frz, Nat.le_refl, List.set_cons_zero, List.set_cons_succ, go_sem, hfo])
 refine Av (A8 [0, 1] rfl rfl) ?_
 (try simp only [List.set_nil, List.take_nil, List.take_zero, List.map_append, go_sem])
 (try simp only [Fi])
 have hnkl := YJ O D nw X.length
 have hkyok := Zh hv hD hQ hN hn hP
 have hkg := fun s (hs : s < X.length) => X0 (O := O) (D := D) (nw := nw) hs
 have hoz := hP.sz
 generalize hnk : ZE O D nw X.length = nk at *
 refine A6 (fun k : Nat => { tm := [(0, .a (.c (.p 0 0))), (3, .a (.c (.s 1 X.length))), (6, .a (.c (.t 1 (Aa nw)))), (8, .i (F3 X.length nw)), (9, .a (.c (.t 1 (Ai O)))), (52, .a (.c (.t 1 (Aa D)))), (53, .i X.length), (54, .i k)], hp := [.r (ZG X D (Q.map Int.ofNat) dv), .r ⟨9, 1, true, XI (ZI nk ky k)⟩], n := 93, pin := 1 }) (fun k => k <= X.length) (fun k => X.length - k) 0 ?_ ?_ ?_
 ·omega
 ·simp only [ZI, List.take_zero, List.drop_zero, List.nil_append, ZG]
  exact Wo
 rintro k hk K hK
 simp only [ZG]
 by_cases hlk : k < X.length
 rotate_left
 ·have d2 : decide ((k : Int) < (X.length : Int)) = false := by simpa using hlk
  have hke : ZI nk ky k = nk := by unfold ZI; rw [gE7 (by omega), List.drop_eq_nil_of_le (by omega), List.append_nil]
  have hpf := YH nk (Wy (H5 X) nw) hkyok (by omega)
  rw [hnkl, hnc1, <- hnc] at hpf
  rw [hke]
  (refine Wf @d2 ?_;(repeat clear hK K);repeat refine kq fun K hK=>?_)
  refine Wm ?_
  (refine Wi ?_;repeat clear hK K)
  (refine We ?_;(repeat clear hK K);repeat refine kq fun K hK=>?_)
  (refine Ad rfl ?_; intro K1 hK1; refine AX (ids := []) [1] (hpf) rfl rfl (by simp only [go_sem]) (by first | assumption | kernel_rfl) rfl rfl (by (simp only [List.map_append, List.append_nil, go_sem]) <;> rfl) (by (simp only [VC, Fi, go_sem]) <;> rfl) ?_ ?_)
  ·rintro _ _ ⟨rfl, rfl⟩; rfl
  rintro _ _ ⟨rfl, rfl⟩
  simp only [Aw]
  (simp only [Aq, Bc, CT, U5, List.append_nil, List.nil_append, List.length_map, go_sem]; refine hK1 _ ?_; clear hK1 K1)
  (refine We ?_;(repeat clear hK K);repeat refine kq fun K hK=>?_)
  refine Wn ?_
  refine hK _ (j + 1, F3 X.length nw, Wz (H5 X) nw, nk) ⟨?_, hnn, hnkl, ?_, fun h => ?_⟩ (by simp only; omega) ?_
  ·simp only
   rw [show WB (H5 X) c0 (j + 1) = Wz (H5 X) (WB (H5 X) c0 j) from rfl, <- hit]
  ·simp only
   by_cases hne : Wz (H5 X) nw = nw
   ·rw [hne]; exact Nat.le_refl _
   exact Nat.le_of_lt (hnl hne)
  ·simp only at h ⊢
   by_cases hne : Wz (H5 X) nw = nw
   ·rw [hne, hne]
   have := hnl hne; omega
  simp only
  have hw2l := hnn.len
  generalize hw2 : Wz (H5 X) nw = w2 at *
  have hf0 : (if X.length <= (Aa w2).length then C.t 1 ((Aa w2).take X.length) else C.u) = C.t 1 (Aa w2) := by rw [if_pos (by rw [Yi]; omega), gE7 (by rw [Yi]; omega)]
  (refine Sp (BA (r := ⟨3, 1, true, A7 w2⟩) 2 (Aa w2) rfl (Gd _) (show 0 < (1 : Nat) by omega)) ?_; simp only [ST.frz, A0.frz, AV.frz, C.frz, Nat.le_refl, List.set_cons_zero, List.set_cons_succ, go_sem, hf0])
  refine Le.trans (A8 [0, 1] rfl rfl) ?_
  (try simp only [List.set_nil, List.take_nil, List.take_zero, List.map_append, go_sem])
  (try simp only [Fi])
  simp only [ZG]
  exact Wo
 have d2 : decide ((k : Int) < (X.length : Int)) = true := by simpa using hlk
 obtain ⟨gD0, hfk, _⟩ := BR hv hD hlk
 have gD := Aj gD0
 have gW := Aj (show nw[k]? = some (nw.getD k 0) from by rw [gE2, gE1 (by omega)]; rfl)
 have gO := Ac (show O[Xh D k]? = some (O.getD (Xh D k) []) from by rw [gE2, gE1 (by omega)]; rfl)
 have hkk := hkg k hlk
 have hks := Zc (ky := ky) (by omega) hkk
 have hkml := Zb (nk := nk) (ky := ky) (by omega) (k := k) (by omega)
 have hrl := hoz (Xh D k)
 unfold ZD at hkk hks
 generalize nw.getD k 0 = x0 at *
 generalize O.getD (Xh D k) [] = row at *
 generalize Xh D k = fk at *
 (refine Wf @d2 ?_;(repeat clear hK K);repeat refine kq fun K hK=>?_)
 refine Wl ?_
 (refine Wf (an @Yi (an @hDl (an @gD (an @hNl (an @gW (an @A4 (an @hOl (an @gO (an @A3 @Al))))))))) ?_;(repeat clear hK K);repeat refine kq fun K hK=>?_)
 refine A6 (fun m : Nat => { tm := [(0, .a (.c (.p 0 0))), (3, .a (.c (.s 1 X.length))), (6, .a (.c (.t 1 (Aa nw)))), (8, .i (F3 X.length nw)), (9, .a (.c (.t 1 (Ai O)))), (10, .i k), (12, .a (.c (.s 2 (x0 :: ZC (row.take m)).length))), (52, .a (.c (.t 1 (Aa D)))), (53, .i X.length), (54, .i k), (67, .a (.c (.t 2 (At row)))), (68, .i row.length), (69, .i m)], hp := [.r (ZG X D (Q.map Int.ofNat) dv), .r ⟨9, 1, true, XI (ZI nk ky k)⟩, .r ⟨3, 1, true, A7 (x0 :: ZC (row.take m))⟩], n := 93, pin := 1 }) (fun m => m <= row.length) (fun m => row.length - m) 0 ?_ ?_ ?_
 ·omega
 ·simp only [List.take_zero, ZC, List.flatMap_nil, A7, List.map_cons, List.map_nil, List.length_cons, List.length_nil, ZG]
  exact Wo
 rintro m hm K hK
 simp only [ZG]
 have hfl : (x0 :: ZC (row.take m)).length <= 3000 := by rw [List.length_cons, Z6, List.length_take]; omega
 by_cases hlm : m < row.length
 ·have d3 : decide ((m : Int) < (row.length : Int)) = true := by simpa using hlm
  have hat := Be hlm
  have hfs := YU (row.take m) row[m]
  rw [<- gE8 hlm] at hfs
  have hnx : x0 :: ZC (row.take (m + 1)) = (x0 :: ZC (row.take m)) ++ [row[m].1, row[m].2] := by rw [hfs]; rfl
  have hnl2 : (ZC (row.take (m + 1))).length + 1 = (x0 :: ZC (row.take m)).length + 2 := by rw [hfs]; simp
  generalize x0 :: ZC (row.take m) = L at *
  have c2 := ZJ L row[m].1 row[m].2
  generalize row[m] = a at *
  obtain ⟨e, t⟩ := a
  simp only at hat c2 hnx
  (refine Wf @d3 ?_;(repeat clear hK K);repeat refine kq fun K hK=>?_)
  refine Wl ?_
  (refine Cr (an @hat (an @A3 (an @Al (an @A5 @c2)))) ?_;(repeat clear hK K);repeat refine kq fun K hK=>?_)
  refine Wn ?_
  refine hK _ (m + 1) (by omega) (by omega) ?_
  refine Le.trans (A8 [0, 1, 5] rfl rfl) ?_
  (try simp only [List.set_nil, List.take_nil, List.take_zero, List.map_append, go_sem])
  (try simp only [Fi, Ak])
  rw [hnx]
  simp only [ZG, List.length_append, List.length_cons, List.length_nil, hnl2]
  exact Wo
 have d3 : decide ((m : Int) < (row.length : Int)) = false := by simpa using hlm
 have hmr : row.take m = row := gE7 (by omega)
 rw [hmr] at hfl ⊢
 generalize x0 :: ZC row = L at *
 (refine Wf @d3 ?_;(repeat clear hK K);repeat refine kq fun K hK=>?_)
 refine Wm ?_
 (refine Wi ?_;repeat clear hK K)
 have hfo2 : (if L.length <= (Aa L).length then C.t 1 ((Aa L).take L.length) else C.u) = C.t 1 (Aa L) := by rw [if_pos (by rw [Yi]; exact Nat.le_refl _), gE7 (by rw [Yi]; exact Nat.le_refl _)]
 (refine Av (BA (r := ⟨3, 1, true, A7 L⟩) 2 (Aa L) rfl (Gd _) (show 0 < (1 : Nat) by omega)) ?_; simp only [ST.frz, A0.frz, AV.frz, C.frz, Nat.le_refl, List.set_cons_zero, List.set_cons_succ, go_sem, hfo2])
 have hks2 : (XI (ZI nk ky k)).set k (C.v (Jy L)) = XI (ZI nk ky (k + 1)) := by rw [<- hks]; exact JA _ _ _
 (refine We ?_;(repeat clear hK K);repeat refine kq fun K hK=>?_)
 (refine Wj (TT L (by omega)) ?_; intro K1 hK1)
 rintro _ _ ⟨rfl, rfl⟩
 obtain ⟨sb, hsb⟩ : ∃ b, Jy L = Value.string b := ⟨_, rfl⟩
 rw [hsb] at hks2 ⊢
 (refine Wk ?_; clear hK1 K1)
 (refine Cr (an @Gu (an @hkml (an @hnkl @hks2))) ?_;(repeat clear hK K);repeat refine kq fun K hK=>?_)
 refine Wn ?_
 refine hK _ (k + 1) (by omega) (by omega) ?_
 refine Le.trans (A8 [0, 1] rfl rfl) ?_
 (try simp only [List.set_nil, List.take_nil, List.take_zero, List.map_append, go_sem])
 (try simp only [Fi])
 simp only [ZG]
 exact Wo
theorem JE {s : ST} (i j e k : Nat) {r : Row} (hi : s.hp[i]? = some (.r r)) (hj : r.cells[j]? = some (.v (.slice none 0 0))) (hk : 0 < k) : Le s { s with tm := EV [i] s.tm, hp := s.hp.set i (.r { r with cells := r.cells.set j (.o (k, e) []) }) ++ [.d] } := by
 have hil := (List.getElem?_eq_some_iff.1 hi).1
 have hjl := (List.getElem?_eq_some_iff.1 hj).1
 have hne : i ≠ s.hp.length := by omega
 have a := Nu (s := s) e k
 have b := Js (s := { s with hp := s.hp ++ [Ob.r ⟨e, k, true, []⟩] }) i j s.hp.length (r := r) (e0 := e) (k0 := k) hne (by simp only; rw [gEa hil]; exact hi) hj (by simp)
 have c := AR (s := { s with hp := (s.hp ++ [Ob.r ⟨e, k, true, []⟩]).set i (Ob.r { r with cells := r.cells.set j (.s s.hp.length 0) }) }) i j s.hp.length 0 (r := ⟨e, k, true, []⟩) (ri := { r with cells := r.cells.set j (.s s.hp.length 0) }) (ts := []) hne (by simp only; rw [gEc (by simp; omega)]) (by simp only; rw [gEc hjl]) (by simp only; rw [gE5 hne]; simp) rfl hk (by simp) trivial
 have h := (a.trans b).trans c
 have e1 : ((((s.hp ++ [Ob.r ⟨e, k, true, []⟩]).set i (.r { r with cells := r.cells.set j (.s s.hp.length 0) })).set i (.r { r with cells := (r.cells.set j (.s s.hp.length 0)).set j (.o (k, e) []) })).set s.hp.length .d) = s.hp.set i (.r { r with cells := r.cells.set j (.o (k, e) []) }) ++ [.d] := by
  rw [List.set_set, List.set_set, List.set_append_left _ _ hil, List.set_append_right _ _ (by simp)]
  simp
 simp only at h
 rw [e1] at h
 exact h
set_option maxHeartbeats 2000000 in
theorem Z2 (R : List (List Ar)) (hv : BL R = true) (hn : R.length <= 100) (ht : AN R <= 1000) (hr : ∀ r ∈ R, r.length <= 1000000) : FC Tryz.prog 38 [Bh R] [] (fun r o => ∃ c, DlC R c /\ Nrm R.length c /\ o = [] /\ r = Aq c) := by
 refine A9 Tryz.func38 rfl (by rw [Tryz.ntmps38]; simp) ?_
 rw [Tryz.ntmps38]
 simp only [Bz, Bh]
 have hlo : BK R = true := gEg (gE4 hv).1
 (refine We ?_;(repeat clear hK K);repeat refine kq fun K hK=>?_)
 (refine Wj (EE R (by omega) (fun r h => by have := hr r h; omega)) ?_; intro K1 hK1)
 rintro _ _ ⟨rfl, rfl⟩
 (refine Wk ?_; clear hK1 K1)
 rw [hv]
 (refine Wf @Bool.not_true ?_;(repeat clear hK K);repeat refine kq fun K hK=>?_)
 refine Wm ?_
 (refine We ?_;(repeat clear hK K);repeat refine kq fun K hK=>?_)
 refine D4 (JE 1 0 41 1 rfl rfl (by omega)) ?_
 simp only [go_sem]
 refine D4 (JE 1 1 3 1 rfl rfl (by omega)) ?_
 simp only [go_sem]
 refine D4 (JE 1 2 3 1 rfl rfl (by omega)) ?_
 simp only [go_sem]
 refine D4 (JE 1 3 4 1 rfl rfl (by omega)) ?_
 simp only [go_sem]
 have hadd := YK [] R [] [] [] (.inl rfl) hv (by have := (gE4 hlo).2.1; simpa using this) (by have := (gE4 hlo).2.2.1; simpa [AN] using this) hr (by simp) ⟨rfl, fun v h => by simp at h⟩ ⟨rfl, fun v h => by simp at h⟩
 rw [Pz] at hadd
 (refine Ad rfl ?_; intro K1 hK1; refine AX (ids := []) [1] (hadd) rfl rfl (by simp only [go_sem]) (by first | assumption | kernel_rfl) rfl rfl (by (simp only [List.map_append, List.append_nil, go_sem]) <;> rfl) (by (simp only [VC, ZF, Ai, Aa, Xl, go_sem]) <;> rfl) ?_ ?_)
 ·rintro _ _ ⟨rfl, D, Q, B, _, _, _, rfl⟩; rfl
 rintro _ _ ⟨rfl, D, Q, B, hD, hB, hQ, rfl⟩
 simp only [ZF]
 (refine Wk ?_; clear hK1 K1)
 (refine We ?_;(repeat clear hK K);repeat refine kq fun K hK=>?_)
 refine D4 (CD 1 rfl) ?_
 simp only [VH, go_sem]
 (refine Ad rfl ?_; intro K1 hK1; refine AX (ids := []) [1] (Z1 R D Q B hv hn ht hr hD hQ hB) rfl rfl (by simp only [go_sem]) (by first | assumption | kernel_rfl) rfl rfl (by (simp only [List.map_append, List.append_nil, go_sem]) <;> rfl) (by (simp only [VC, ZG, go_sem]) <;> rfl) ?_ ?_)
 ·rintro _ _ ⟨c, _, _, rfl, rfl⟩; rfl
 rintro _ _ ⟨c, hc, hN, rfl, rfl⟩
 simp only [ZG]
 (refine Wk ?_; clear hK1 K1)
 (refine We ?_;(repeat clear hK K);repeat refine kq fun K hK=>?_)
 ((try refine AF ?_); (try simp only [Ae, AJ]); refine Bm (A8 [] rfl rfl) ?_; (try simp only [List.set_nil, List.take_nil, List.take_zero, List.map_append, go_sem]); ((try refine AF ?_); (try refine Ab ?_); (try simp only [Ae, AJ]); refine BE (by first | exact .inl rfl | exact .inr rfl) rfl ?_; simp only [VE, EO, Em, EU, Tryz.results38, go_sem, true_and, and_true, Aq]))
 exact ⟨c, hc, hN, rfl⟩
theorem Zd {A R : List (List Ar)} (hA : BL A = true) (hv : BL R = true) (hn : A.length + R.length <= 100) (ht : AN A + AN R <= 1000) : BL (CL A R) = true := Nq (.inr hA) hv (by show A.length + R.length <= 16384; omega) (by show AN A + AN R <= 262144; omega)
theorem getD_some {c : List Int} {i : Nat} (h : i < c.length) : (Aa c)[i]? = some (.v (.int .i64 (c.getD i 0))) := Aj (by rw [gE2, gE1 h]; rfl)
noncomputable def EqD (A R : List (List Ar)) : Bool := @decide (BL A = true /\ BL R = true /\ ∃ c, DlC (CL A R) c /\ c.getD 0 0 = c.getD A.length 0) (Classical.propDecidable _)
theorem EqD.of {A R : List (List Ar)} (hA : BL A = true) (hv : BL R = true) {c : List Int} (hc : DlC (CL A R) c) : decide (c.getD 0 0 = c.getD A.length 0) = EqD A R := by
 by_cases h : c.getD 0 0 = c.getD A.length 0
 ·rw [gEg h]
  exact (@decide_eq_true _ (Classical.propDecidable _) ⟨hA, hv, c, hc, h⟩).symm
 rw [decide_eq_false h]
 refine (@decide_eq_false _ (Classical.propDecidable _) ?_).symm
 rintro ⟨_, _, d, hd, q⟩
 obtain rfl := hc.uniq hd
 exact h q
set_option maxHeartbeats 4000000 in
theorem Zl (A R : List (List Ar)) (hA : BL A = true) (hv : BL R = true) (hn : A.length + R.length <= 100) (ht : AN A + AN R <= 1000) (hrA : ∀ r ∈ A, r.length <= 1000000) (hr : ∀ r ∈ R, r.length <= 1000000) : FC Tryz.prog 19 [Bh A, Bh R] [] (fun r o => o = [] /\ r = .b (EqD A R)) := by
 refine A9 Tryz.func19 rfl (by rw [Tryz.ntmps19]; simp) ?_
 rw [Tryz.ntmps19]
 simp only [Bz, Bh]
 have hlA : BK A = true := gEg (gE4 hA).1
 have hz := Zd hA hv hn ht
 have hzn : (CL A R).length <= 100 := by rw [Ck]; exact hn
 have hzt : AN (CL A R) <= 1000 := by rw [PC]; exact ht
 have hzr := RE hrA hr
 have hA1 : 1 <= A.length := (gE4 hlA).1
 have hR1 : 1 <= R.length := (gE4 (gEg (gE4 hv).1 : BK R = true)).1
 (refine We ?_;(repeat clear hK K);repeat refine kq fun K hK=>?_)
 (refine Wj (EE A (by omega) (fun r h => by have := hrA r h; omega)) ?_; intro K1 hK1)
 rintro _ _ ⟨rfl, rfl⟩
 (refine Wk ?_; clear hK1 K1)
 rw [hA]
 (refine Wf @Bool.not_true ?_;(repeat clear hK K);repeat refine kq fun K hK=>?_)
 (refine Cn rfl rfl (by simp only [go_sem] <;> rfl) ?_; intro K1 hK1; refine (A2 (ids := []) (EE R (by omega) (fun r h => by have := hr r h; omega)) rfl rfl (by simp only [go_sem]) (by kernel_rfl) (by (simp only [List.append_nil, go_sem]) <;> rfl) ?_).stp)
 rintro _ _ ⟨rfl, rfl⟩
 (refine Wk ?_; clear hK1 K1)
 rw [hv]
 (refine Wf @Bool.not_true ?_;(repeat clear hK K);repeat refine kq fun K hK=>?_)
 refine Wm ?_
 (refine We ?_;(repeat clear hK K);repeat refine kq fun K hK=>?_)
 refine D4 (JE 2 0 41 1 rfl rfl (by omega)) ?_
 simp only [go_sem]
 refine D4 (JE 2 1 3 1 rfl rfl (by omega)) ?_
 simp only [go_sem]
 refine D4 (JE 2 2 3 1 rfl rfl (by omega)) ?_
 simp only [go_sem]
 refine D4 (JE 2 3 4 1 rfl rfl (by omega)) ?_
 simp only [go_sem]
 have hadd := YK [] A [] [] [] (.inl rfl) hA (by have := (gE4 hlA).2.1; simpa using this) (by have := (gE4 hlA).2.2.1; simpa [AN] using this) hrA (by simp) ⟨rfl, fun v h => by simp at h⟩ ⟨rfl, fun v h => by simp at h⟩
 rw [Pz] at hadd
 (refine Ad rfl ?_; intro K1 hK1; refine AX (ids := []) [2] (hadd) rfl rfl (by simp only [go_sem]) (by first | assumption | kernel_rfl) rfl rfl (by (simp only [List.map_append, List.append_nil, go_sem]) <;> rfl) (by (simp only [VC, ZF, Ai, Aa, Xl, go_sem]) <;> rfl) ?_ ?_)
 ·rintro _ _ ⟨rfl, D, Q, B, _, _, _, rfl⟩; rfl
 rintro _ _ ⟨rfl, D1, Q1, B1, hD1, hB1, _, rfl⟩
 simp only [ZF]
 (refine Wk ?_; clear hK1 K1)
 (refine We ?_;(repeat clear hK K);repeat refine kq fun K hK=>?_)
 (refine Ad rfl ?_; intro K1 hK1; refine AX (ids := []) [2] (YK A R D1 (Q1.map Int.ofNat) B1 (.inr hA) hv (by show A.length + R.length <= 16384; omega) (by show AN A + AN R <= 262144; omega) hr hrA hD1 hB1) rfl rfl (by simp only [go_sem]) (by first | assumption | kernel_rfl) rfl rfl (by (simp only [List.map_append, List.append_nil, go_sem]) <;> rfl) (by (simp only [VC, ZF, go_sem]) <;> rfl) ?_ ?_)
 ·rintro _ _ ⟨rfl, D, Q, B, _, _, _, rfl⟩; rfl
 rintro _ _ ⟨rfl, D, Q, B, hD, hB, hQ, rfl⟩
 simp only [ZF]
 (refine Wk ?_; clear hK1 K1)
 (refine We ?_;(repeat clear hK K);repeat refine kq fun K hK=>?_)
 refine D4 (CD 2 rfl) ?_
 simp only [VH, go_sem]
 (refine Ad rfl ?_; intro K1 hK1; refine AX (ids := []) [2] (Z1 (CL A R) D Q B hz hzn hzt hzr hD hQ hB) rfl rfl (by simp only [go_sem]) (by first | assumption | kernel_rfl) rfl rfl (by (simp only [List.map_append, List.append_nil, go_sem]) <;> rfl) (by (simp only [VC, ZG, go_sem]) <;> rfl) ?_ ?_)
 ·rintro _ _ ⟨c, _, _, rfl, rfl⟩; rfl
 rintro _ _ ⟨c, hc, hN, rfl, rfl⟩
 have hcl : c.length = A.length + R.length := by rw [hN.len, Ck]
 simp only [ZG]
 (refine Wk ?_; clear hK1 K1)
 (refine We ?_;(repeat clear hK K);repeat refine kq fun K hK=>?_)
 (refine Ao 10 [(0, 0), (1, 0), (2, 1), (3, 0), (4, 0), (5, 1), (6, 0), (7, 0), (8, 1), (9, 0), (10, 2)] (by kernel_rfl) (by kernel_rfl) (by intro c st h; simp [Ae, AJ, VD] at h) ?_)
 (refine Wb (an @Int.toNat_zero (an @A4 (an @Yi (an (getD_some (c := c) (i := 0) (by omega)) (getD_some (c := c) (i := A.length) (by omega)))))) ?_; repeat clear hK K)
 have he : (c.getD 0 0 == c.getD A.length 0) = EqD A R := EqD.of hA hv hc
 simp only [he]
 exact T2 [] Tryz.results19
end Go.Proofs.YthnkailnoobdoaaGreatDoor
