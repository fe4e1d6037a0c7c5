/- Lemmas. -/
import Derived.Test.YthnkailnoobdoaaGreatDoorZk
import Derived.Test.YthnkailnoobdoaaGreatDoorW03
import Derived.Test.YthnkailnoobdoaaGreatDoorMG
import Derived.Test.YthnkailnoobdoaaGreatDoorKyl
import Derived.Test.YthnkailnoobdoaaGreatDoorMD
import Derived.Test.YthnkailnoobdoaaGreatDoorMF
namespace Go.Proofs.YthnkailnoobdoaaGreatDoor
set_option linter.unusedVariables false
set_option linter.unusedSimpArgs false
open Go.RowKit
set_option maxRecDepth 100000
attribute [local go_sem] lga C.pl C.one

def L7 (Ls : List (List (List Ar))) : List (List Ar) := Ls.foldl CL []
theorem II (Ls : List (List (List Ar))) (R : List (List Ar)) : L7 (Ls ++ [R]) = CL (L7 Ls) R := by simp [L7]
def XQ (Ls : List (List (List Ar))) : List Tr := Ls.map fun R => .l 1 (Ai R)
theorem NU (Ls : List (List (List Ar))) : (XQ Ls).length = Ls.length := by simp [XQ]
theorem Sb {Ls : List (List (List Ar))} {k : Nat} {R : List (List Ar)} (h : Ls[k]? = some R) : (XQ Ls)[k]? = some (.l 1 (Ai R)) := by simp [XQ, h]
theorem U3 {Ls : List (List (List Ar))} {k : Nat} {R : List (List Ar)} (h : Ls[k]? = some R) : ((XQ Ls).drop k).take 1 = [.l 1 (Ai R)] := by
 obtain ⟨hk, e⟩ := List.getElem?_eq_some_iff.1 (Sb h)
 rw [List.drop_eq_getElem_cons hk, e]; rfl
def XR (A : List (List Ar)) (cm : List Int) (dv : List Bool) : Row := ⟨65, 5, false, [.o (1, 41) (Ai A), .o (1, 3) (Aa cm), .v (.slice none 0 0), .v (.slice none 0 0), .o (1, 4) (Xl dv)]⟩
theorem NV (A R : List (List Ar)) : AN (CL A R) = AN A + AN R := by
 unfold AN CL Xg
 rw [List.map_append, List.sum_append, List.map_map]
 have : (List.length ∘ Xf A.length) = List.length := by funext r; exact C2 _ r
 rw [this]
def XS (n : Nat) (row : List Ar) (i : Nat) : List Ar := (Xf n row).take i ++ row.drop i
theorem Sc (n : Nat) (row : List Ar) (i : Nat) : (XS n row i).length = row.length := by simp [XS, C2]; omega
theorem PW (n : Nat) (row : List Ar) : XS n row 0 = row := by simp [XS]
theorem PX (n : Nat) (row : List Ar) : XS n row row.length = Xf n row := by
 unfold XS
 rw [gE7 (by rw [C2]; exact Nat.le_refl _), List.drop_length, List.append_nil]
theorem Sd {n : Nat} {row : List Ar} {i : Nat} (h : i < row.length) : (XS n row i)[i]? = some row[i] := by
 unfold XS
 rw [gEb (by rw [List.length_take, C2]; omega), List.length_take, C2, Nat.min_eq_left (by omega), Nat.sub_self, List.getElem?_drop]
 simp [h]
theorem Se {n : Nat} {row : List Ar} {i : Nat} (h : i < row.length) : (XS n row i).set i (row[i].1, row[i].2 + (n : Int)) = XS n row (i + 1) := by
 unfold XS
 rw [List.set_append_right _ _ (by rw [List.length_take, C2]; omega), List.length_take, C2, Nat.min_eq_left (by omega), Nat.sub_self, List.drop_eq_getElem_cons h, List.set_cons_zero, L5 h, List.append_assoc]
 rfl
theorem PY {xs : List Ar} {i : Nat} {a : Ar} (h : xs[i]? = some a) : (As xs)[i * 2 + 1]? = some (.v (.int .i64 a.2)) := by
 induction xs generalizing i with
 | nil => simp at h
 | cons b r ih =>
  cases i with
  | zero => simp at h; subst h; rfl
  | succ i =>
   rw [List.getElem?_cons_succ] at h
   rw [show (i + 1) * 2 + 1 = i * 2 + 1 + 2 from by omega]
   exact ih h
def XT (f : Nat -> Nat) (n k : Nat) : List (List Int) := (List.range n).map fun c => (((List.range k).filter fun s => f s == c).map Int.ofNat)
theorem PZ (f : Nat -> Nat) (n : Nat) : XT f n n = XM f n := rfl
theorem Sf (f : Nat -> Nat) (n k : Nat) : (XT f n k).length = n := by simp [XT]
theorem Q0 (f : Nat -> Nat) (n : Nat) : List.replicate n (C.o (1, 3) []) = B9 (XT f n 0) := by
 refine List.ext_getElem (by simp [B9, XT]) fun i h1 h2 => ?_
 simp [B9, XT, Aa]
theorem Sg {f : Nat -> Nat} {n k c : Nat} (h : c < n) : (XT f n k)[c]? = some (((List.range k).filter fun s => f s == c).map Int.ofNat) := by simp [XT, h]
theorem Sh {f : Nat -> Nat} {n k : Nat} (h : f k < n) : (XT f n k).set (f k) (((List.range k).filter fun s => f s == f k).map Int.ofNat ++ [(k : Int)]) = XT f n (k + 1) := by
 refine List.ext_getElem (by simp [XT]) fun i h1 h2 => ?_
 rw [List.getElem_set]
 split
 rotate_left
 ·rename_i e
  simp only [XT, List.getElem_map, List.getElem_range, List.range_succ, List.filter_append, List.map_append]
  simp [e]
 rename_i e
 subst e
 simp only [XT, List.getElem_map, List.getElem_range, List.range_succ, List.filter_append, List.map_append]
 simp
theorem Si (R : List (List Ar)) (D : List Int) (dv : List Bool) (f rk : Nat -> Nat) (hlo : ∀ r ∈ R, ∀ a ∈ r, 0 <= a.2 /\ a.2 < (R.length : Int)) (htot : AN R <= 1000000) (hDl : D.length = R.length) (hD : ∀ v, v < R.length -> D[v]? = some (f v : Int) /\ f v < R.length) (hE : ∀ e ∈ Xa f R R.length, (e.1 < R.length /\ f e.1 = e.1) /\ e.2 < R.length /\ f e.2 = e.2 /\ rk e.2 < rk e.1) (hn : R.length <= 1000000) (hr : ∀ r ∈ R, r.length <= 1000000) {n m : Nat} : FC Tryz.prog 45 [.a (.g [.b 0 0 n]), .a (.c (.b 0 1 m))] [.r (XR R D dv)] (fun r o => ∃ Q, HB (Xa f R R.length) R.length f Q /\ r = .a (.c (.s 1 Q.length)) /\ o = [.r (XR R D dv), Aw (Q.map Int.ofNat)]) := by
 have h := U1 R D f rk hlo htot hDl hD hE hn hr
 have h2 : FC Tryz.prog 45 [Bh R, Aq D] [] (fun r o => ∃ L, (∃ Q, HB (Xa f R R.length) R.length f Q /\ L = Q.map Int.ofNat) /\ r = .a (.c (.s 0 L.length)) /\ o = [.r ⟨3, 1, true, A7 L⟩]) := h.mono fun r o ⟨Q, h1, h2, h3⟩ => ⟨Q.map Int.ofNat, ⟨Q, h1, rfl⟩, by rw [h2, List.length_map], h3⟩
 refine (FC.inB (A' := [.a (.g [.b 0 0 n]), .a (.c (.b 0 1 m))]) (r0 := XR R D dv) h2 fun g w vals hr ⟨hl, ha⟩ => ⟨hl, fun i x hx => ?_⟩).mono fun r o ⟨L, ⟨Q, h1, e⟩, h2, h3⟩ => ⟨Q, h1, by rw [h2, e, List.length_map], by rw [h3, e]; rfl⟩
 match i, hx with
 | 0, hx =>
  cases hx
  obtain ⟨v, h1, us, h3, h4, h5⟩ := ha 0 _ rfl
  refine ⟨v, h1, us, h3, h4, fun i x hx => ?_⟩
  match i, hx with
  | 0, hx =>
   cases hx
   obtain ⟨u, h6, h7⟩ := h5 0 _ rfl
   exact ⟨u, h6, QN hr rfl h7⟩
  | i + 1, hx => simp at hx
 | 1, hx =>
  cases hx
  obtain ⟨v, h1, h2⟩ := ha 1 _ rfl
  exact ⟨v, h1, (show AVR _ (.a (.c (.t 1 (Aa D)))) v from QN hr (show (XR R D dv).cells[1]? = some (.o (1, 3) (Aa D)) from rfl) h2)⟩
 | i + 2, hx => simp at hx
set_option maxHeartbeats 8000000 in
theorem Sj (Ls : List (List (List Ar))) (h1 : Ls ≠ []) (hm : Ls.length <= 1000) (hv : ∀ R ∈ Ls, BL R = true) (hr : ∀ R ∈ Ls, ∀ r ∈ R, r.length <= 1000000) (hs1 : (Ls.map List.length).sum <= T3) (hs2 : (Ls.map AN).sum <= T4) :
  FC Tryz.prog 27 [.a (.c (.t 1 (XQ Ls)))] [] (fun r o => r = .a (.c (.p 0 0)) /\ ∃ D Q B, BL (L7 Ls) = true /\ CpOk (L7 Ls) D /\ DvL (L7 Ls) B /\ HB (Xa (Xh D) (L7 Ls) (L7 Ls).length) (L7 Ls).length (Xh D) Q /\ o = [.r (XP (L7 Ls) D (Q.map Int.ofNat) (XM (Xh D) (L7 Ls).length) B)]) := by
 refine A9 Tryz.func27 rfl (by rw [Tryz.ntmps27]; simp) ?_
 rw [Tryz.ntmps27]
 have hmS : T3 = 16384 := rfl
 have hmA : T4 = 262144 := rfl
 simp only [Bz]
 (refine Wf @NU ?_;(repeat clear hK K);repeat refine kq fun K hK=>?_)
 refine Av (JE 0 0 41 1 rfl rfl (by omega)) ?_
 simp only [go_sem]
 refine Av (JE 0 1 3 1 rfl rfl (by omega)) ?_
 simp only [go_sem]
 refine Av (JE 0 4 4 1 rfl rfl (by omega)) ?_
 simp only [go_sem]
 refine Av (A8 [0] rfl rfl) ?_
 (try simp only [List.set_nil, List.take_nil, List.take_zero, List.map_append, go_sem])
 refine A6 (fun x : Nat × List (List Ar) × List Int × List Bool => { tm := [(3, .a (.c (.p 0 0))), (17, .a (.c (.t 1 (XQ Ls)))), (18, .i Ls.length), (19, .i x.1)], hp := [.r (XR x.2.1 x.2.2.1 x.2.2.2)], n := 147, pin := 0 }) (fun x => x.1 <= Ls.length /\ (x.2.1 = [] \/ BL x.2.1 = true) /\ (x.2.1.length + ((Ls.drop x.1).map List.length).sum <= T3 /\ AN x.2.1 + ((Ls.drop x.1).map AN).sum <= T4) /\ (∀ r ∈ x.2.1, r.length <= 1000000) /\ CpOk x.2.1 x.2.2.1 /\ DvL x.2.1 x.2.2.2 /\ x.2.1 = L7 (Ls.take x.1)) (fun x => Ls.length - x.1) (0, [], [], []) ?_ ?_ ?_
 ·exact ⟨by simp, .inl rfl, ⟨by simpa using hs1, by simpa [AN] using hs2⟩, by simp, ⟨rfl, fun v hv => by simp at hv⟩, ⟨rfl, fun v hv => by simp at hv⟩, rfl⟩
 ·simp only [XR, Ai, Aa, Xl, List.map_nil]
  exact Wo
 rintro ⟨k, A, cm, dv⟩ ⟨hk, hA, ⟨hz1, hz2⟩, hrA, hC, hB, hAe⟩ K hK
 simp only at hk hA hz1 hz2 hrA hC hB hAe
 simp only [XR]
 by_cases hlk : k < Ls.length
 rotate_left
 ·have d0 : decide ((k : Int) < (Ls.length : Int)) = false := by simpa using hlk
  have hke : Ls.take k = Ls := gE7 (by omega)
  rw [hke] at hAe
  have hne : A ≠ [] := by
   obtain ⟨Lr, R, rfl⟩ : ∃ Lr R, Ls = Lr ++ [R] := ⟨Ls.dropLast, Ls.getLast h1, (List.dropLast_concat_getLast h1).symm⟩
   have hR := hv R (List.mem_append_right _ List.mem_cons_self)
   have hRl : 1 <= R.length := (gE4 (gEg (gE4 hR).1 : BK R = true)).1
   rw [II] at hAe
   intro h
   have := congrArg List.length (h.symm.trans hAe)
   rw [Ck, List.length_nil] at this
   omega
  have hvW : BL A = true := hA.resolve_left hne
  have hWlo : BK A = true := gEg (gE4 hvW).1
  have hWt : AN A <= 1000000 := by have := (gE4 hWlo).2.2.1; omega
  have hWl : A.length <= 1000000 := by have := (gE4 hWlo).2.1; omega
  have hord := fun n m => Si A cm dv (Xh cm) (Xi A) (n := n) (m := m) (fun r h a ha => by have := (gE4 hWlo).2.2.2 r h a ha; exact ⟨this.2.2.1, this.2.2.2⟩) hWt hC.1 (fun v hv => ⟨(BR hvW hC hv).1, (BR hvW hC hv).2.1⟩) (PA hvW hC) hWl hrA
  have hcl : cm.length = A.length := hC.1
  (refine Wf @d0 ?_;(repeat clear hK K);repeat refine kq fun K hK=>?_)
  refine Wm ?_
  (refine Wi ?_;repeat clear hK K)
  (refine We ?_;(repeat clear hK K);repeat refine kq fun K hK=>?_)
  (refine Ao 9 [(0, 0), (1, 0), (2, 0), (3, 0), (4, 1), (5, 0), (6, 0), (7, 0), (8, 1), (9, 2), (10, 0), (11, 0), (12, 2)] (by kernel_rfl) (by kernel_rfl) (by intro c st h; simp [Ae, AJ, VD] at h) ?_)
  (refine Wa ?_; repeat clear hK K)
  (refine Vd (id := 0) (off := 0) (k := (1, 41)) (cs := Ai A) rfl rfl rfl rfl ty25 rfl rfl (by simp only [go_sem]) rfl rfl (show 0 < 1 by omega) ?_; simp only [go_sem, A4])
  (refine Wb @Yi ?_; repeat clear hK K)
  (refine VM rfl rfl rfl ?_; intro K1 hK1; refine AX (ids := []) [0] (hord A.length cm.length) rfl rfl (by simp only [go_sem]) (by first | assumption | kernel_rfl) rfl rfl (by (simp only [List.map_append, List.append_nil, go_sem]) <;> rfl) (by (simp only [VC, XR, go_sem]) <;> rfl) ?_ ?_)
  ·rintro _ _ ⟨Q, h1, rfl, rfl⟩; rfl
  rintro _ _ ⟨Q, hQ, rfl, rfl⟩
  simp only [XR, Aw]
  (simp only [Aq, Bc, CT, List.append_nil, List.nil_append, List.length_map, go_sem]; refine hK1 _ ?_; clear hK1 K1)
  (refine Wa ?_; repeat clear hK K)
  refine Av (AR (r := ⟨3, 1, true, A7 (Q.map Int.ofNat)⟩) (ri := ⟨65, 5, false, [.o (1, 41) (Ai A), .o (1, 3) (Aa cm), .s 1 Q.length, .v (.slice none 0 0), .o (1, 4) (Xl dv)]⟩) (ts := Aa (Q.map Int.ofNat)) 0 2 1 Q.length (by decide) rfl rfl rfl rfl (show 0 < 1 by omega) (by rw [A5]; simp) (Gd _)) ?_
  simp only [go_sem]
  refine Av (A8 [0] rfl rfl) ?_
  (try simp only [List.set_nil, List.take_nil, List.take_zero, List.map_append, go_sem])
  refine Av (CD 0 rfl) ?_
  simp only [go_sem, VH]
  (refine Wf (an @A4 (an @Yi @hcl)) ?_;(repeat clear hK K);repeat refine kq fun K hK=>?_)
  rw [Q0 (Xh cm)]
  refine A6 (fun z : Nat => { tm := [(3, .a (.c (.p 0 0))), (122, .a (.c (.t 1 (Aa cm)))), (123, .i A.length), (124, .i z)], hp := [.r ⟨65, 5, false, [.t 1 (Ai A), .t 1 (Aa cm), .t 1 (Aa (Q.map Int.ofNat)), .s 1 A.length, .t 1 (Xl dv)]⟩, .r ⟨22, 1, true, B9 (XT (Xh cm) A.length z)⟩], n := 147, pin := 0 }) (fun z => z <= A.length) (fun z => A.length - z) 0 ?_ ?_ ?_
  ·omega
  ·exact Wo
  rintro z hz K hK
  by_cases hlt : z < A.length
  rotate_left
  ·have d1 : decide ((z : Int) < (A.length : Int)) = false := by simpa using hlt
   have hze : z = A.length := by omega
   subst hze
   rw [PZ]
   (refine Wf @d1 ?_;(repeat clear hK K);repeat refine kq fun K hK=>?_)
   refine Wm ?_
   (refine Wi ?_;repeat clear hK K)
   refine Av (CD 1 rfl) ?_
   simp only [Fg, go_sem]
   have hmlen := JC (Xh cm) A.length
   generalize hML : XM (Xh cm) A.length = ML at *
   refine Av (AR (r := ⟨22, 1, true, Cz ML⟩) (ri := ⟨65, 5, false, [.t 1 (Ai A), .t 1 (Aa cm), .t 1 (Aa (Q.map Int.ofNat)), .s 1 A.length, .t 1 (Xl dv)]⟩) (ts := Cw ML) 0 3 1 A.length (by decide) rfl rfl rfl rfl (show 0 < 1 by omega) (by simp [Cz, hmlen]) (PF _)) ?_
   simp only [go_sem]
   refine Av (CD 0 rfl) ?_
   simp only [go_sem, VH]
   (refine We ?_;(repeat clear hK K);repeat refine kq fun K hK=>?_)
   refine Wp [0] Tryz.results27 ?_
   rw [<- hAe]
   exact ⟨cm, Q, dv, hvW, hC, hB, hQ, by rw [hML]; rfl⟩
  have d1 : decide ((z : Int) < (A.length : Int)) = true := by simpa using hlt
  obtain ⟨gc0, hfc, _⟩ := BR hvW hC hlt
  have gc := Aj gc0
  have gN := DV (Sg (f := Xh cm) (k := z) hfc)
  have hns := Sh hfc
  have hnl := Sf (Xh cm) A.length z
  have hol : (((List.range z).filter fun s => Xh cm s == Xh cm z).map Int.ofNat).length <= 1000000 := by
   rw [List.length_map]
   have := List.length_filter_le (fun s => Xh cm s == Xh cm z) (List.range z)
   rw [List.length_range] at this; omega
  generalize ((List.range z).filter fun s => Xh cm s == Xh cm z).map Int.ofNat = oc at *
  generalize hMM : XT (Xh cm) A.length z = M at *
  obtain ⟨c, hce⟩ : ∃ c, Xh cm z = c := ⟨_, rfl⟩
  rw [hce] at gc gN hns hfc
  (refine Wf @d1 ?_;(repeat clear hK K);repeat refine kq fun K hK=>?_)
  refine Wl ?_
  (refine Wf (an @gc (an @Yi @hcl)) ?_;(repeat clear hK K);repeat refine kq fun K hK=>?_)
  (refine AD [0] (.m 0 0 0 (.m 1 0 0 (.m 2 0 0 (.m 4 0 0 (.m 5 0 0 (.m 6 0 0 (.m 7 0 0 (.m 9 0 0 (.m 12 0 0 (.m 3 1 16 (.m 8 1 14 (.m 10 0 0 (.m 11 1 14 (.a 13 (.a 14 (.m 15 0 0 (.a 16 .e))))))))))))))))) (by kernel_rfl) (by kernel_rfl) (by intro c st h; simp [Ae, AJ, VD] at h) ?_)
  (refine Wh (an @Bs (an @hnl @gN)) ?_; repeat clear hK K)
  (refine W4 rfl rfl ?_; intro K1 hK1; refine BF rfl ?_; simp only [go_sem]; (first | refine hK1 _ ?_ | refine AE (hK1 _ ?_)); clear hK1 K1)
  (refine EY rfl rfl rfl ?_; intro K1 hK1; refine CF rfl rfl rfl rfl (by first | rfl | simp only [CM, List.getD_cons_zero, List.getD_cons_succ, hne, List.isEmpty_cons, Bool.not_false, Bool.true_and, Bool.and_true, Bool.and_self]) rfl ?_; simp only [go_sem, Bs, hnl, gN, List.set_cons_zero, List.set_cons_succ, List.take_succ_cons, List.take_zero, List.drop_zero, List.length_take, List.length_drop, List.length_append, Yi, Az, AZ, BC, A5, B6, AH, Bd, AM, AY]; (first | refine hK1 _ ?_ | refine AE (hK1 _ ?_)); clear hK1 K1)
  (refine Wh (an @Bs (an @hnl @List.length_set.{0})) ?_; repeat clear hK K)
  (refine W5 rfl rfl rfl rfl ?_; intro K1 hK1; refine B4 rfl ?_; simp only [go_sem, Bs, List.length_set, CU, hnl]; (first | refine hK1 _ ?_ | refine AE (hK1 _ ?_)); clear hK1 K1)
  refine Cg ⟨by simp, by simp, ?_⟩
  (try simp only [Ae, AJ])
  refine hK _ ?_
  clear hK K
  have hj6 : ((B9 M).set c (C.s 3 (oc.length + 1)))[c]? = some (.s 3 (oc.length + 1)) := by rw [gEc (by rw [Bs]; omega)]
  have hset6 : ((B9 M).set c (C.s 3 (oc.length + 1))).set c (.o (1, 3) (Aa (oc ++ [(z : Int)]))) = B9 (XT (Xh cm) A.length (z + 1)) := by rw [CU, F9, <- hns]
  (refine We ?_;(repeat clear hK K);repeat refine kq fun K hK=>?_)
  refine Wn ?_
  refine hK _ (z + 1) (by omega) (by omega) ?_
  refine Le.trans (AR (r := ⟨3, 1, true, A7 (oc ++ [(z : Int)])⟩) (ri := ⟨22, 1, true, (B9 M).set c (C.s 3 (oc.length + 1))⟩) (ts := Aa (oc ++ [(z : Int)])) 1 c 3 (oc.length + 1) (by decide) rfl hj6 rfl rfl (show 0 < 1 by omega) (by rw [A5]; simp) (Gd _)) ?_
  simp only [hset6, go_sem]
  refine Le.trans (A8 [0, 1] rfl rfl) ?_
  (try simp only [List.set_nil, List.take_nil, List.take_zero, List.map_append, go_sem])
  (try simp only [D7])
  exact Wo
 have d0 : decide ((k : Int) < (Ls.length : Int)) = true := by simpa using hlk
 have gL := U3 (gE1 hlk)
 have hvR := hv _ (gE6 hlk)
 have hrR := hr _ (gE6 hlk)
 have htkL : Ls.take (k + 1) = Ls.take k ++ [Ls[k]] := gE8 hlk
 have hbk : L7 (Ls.take (k + 1)) = CL A Ls[k] := by rw [htkL, II, hAe]
 have hdr := List.drop_eq_getElem_cons hlk
 rw [hdr] at hz1 hz2
 simp only [List.map_cons, List.sum_cons] at hz1 hz2
 generalize Ls[k] = R at *
 have hlo : BK R = true := gEg (gE4 hvR).1
 (refine Wf @d0 ?_;(repeat clear hK K);repeat refine kq fun K hK=>?_)
 refine Wl ?_
 (refine Cr (an @NU (an @gL @A4)) ?_;(repeat clear hK K);repeat refine kq fun K hK=>?_)
 refine A6 (fun s : Nat => { tm := [(3, .a (.c (.p 0 0))), (5, .a (.c (.p 1 0))), (6, .i A.length), (17, .a (.c (.t 1 (XQ Ls)))), (18, .i Ls.length), (19, .i k), (30, .a (.c (.t 1 (Ai R)))), (31, .i R.length), (32, .i s)], hp := [.r (XR (A ++ (Xg A.length R).take s) cm dv), .r ⟨25, 1, false, [.t 1 (Ai R)]⟩], n := 147, pin := 0 }) (fun s => s <= R.length) (fun s => R.length - s) 0 ?_ ?_ ?_
 ·omega
 ·simp only [List.take_zero, List.append_nil, XR]
  exact Wo
 rintro s hs K hK
 simp only [XR]
 by_cases hlt : s < R.length
 ·have d1 : decide ((s : Int) < (R.length : Int)) = true := by simpa using hlt
  have hgR := gE1 hlt
  have hrl := hrR _ (gE6 hlt)
  have htk := L6 (n := A.length) hlt
  have hbr := fun a ha => (gE4 hlo).2.2.2 _ (gE6 hlt) a ha
  have hol : (A ++ (Xg A.length R).take s).length <= T3 := by rw [List.length_append, List.length_take, Fd]; omega
  have hnx : A ++ (Xg A.length R).take (s + 1) = (A ++ (Xg A.length R).take s) ++ [Xf A.length R[s]] := by rw [htk, List.append_assoc]
  generalize R[s] = row at *
  generalize hO : A ++ (Xg A.length R).take s = O at *
  have hcl := GX (At row) (by rw [A3]; omega)
  rw [Kx, A3, Al] at hcl
  (refine Wf (an @A4 @d1) ?_;(repeat clear hK K);repeat refine kq fun K hK=>?_)
  refine Wl ?_
  (refine Wf (an @A4 (Ac hgR)) ?_;(repeat clear hK K);repeat refine kq fun K hK=>?_)
  (refine Wj hcl ?_; intro K1 hK1)
  rintro _ _ ⟨rfl, rfl⟩
  (simp only [Aq, Bc, CI, List.append_nil, List.nil_append, List.length_map, go_sem]; refine hK1 _ ?_; clear hK1 K1)
  (refine We ?_;(repeat clear hK K);repeat refine kq fun K hK=>?_)
  refine A6 (fun i : Nat => { tm := [(3, .a (.c (.p 0 0))), (5, .a (.c (.p 1 0))), (6, .i A.length), (9, .a (.c (.s 2 row.length))), (17, .a (.c (.t 1 (XQ Ls)))), (18, .i Ls.length), (19, .i k), (30, .a (.c (.t 1 (Ai R)))), (31, .i R.length), (32, .i s), (39, .i row.length), (40, .i i)], hp := [.r (XR O cm dv), .r ⟨25, 1, false, [.t 1 (Ai R)]⟩, .r ⟨40, 2, true, As (XS A.length row i)⟩], n := 147, pin := 0 }) (fun i => i <= row.length) (fun i => row.length - i) 0 ?_ ?_ ?_
  ·omega
  ·simp only [PW, XR]
   exact Wo
  rintro i hi K hK
  simp only [XR]
  by_cases hli : i < row.length
  ·have d2 : decide ((i : Int) < (row.length : Int)) = true := by simpa using hli
   have hg := Sd (n := A.length) hli
   have hst := Se (n := A.length) hli
   have hba := hbr _ (gE6 hli)
   have hsl := Sc A.length row i
   generalize row[i] = a at *
   obtain ⟨e, t⟩ := a
   simp only at hg hst hba
   have hf1 := PY hg
   have hs1' := F8 hg (t + (A.length : Int))
   rw [hst] at hs1'
   simp only at hf1
   (refine Wf @d2 ?_;(repeat clear hK K);repeat refine kq fun K hK=>?_)
   refine Wl ?_
   (refine Cr (an @Ah (an @hsl (an @hf1 @hs1'))) ?_;(repeat clear hK K);repeat refine kq fun K hK=>?_)
   refine Wn ?_
   refine hK _ (i + 1) (by omega) (by omega) ?_
   simp only [XR]
   exact Wo
  have d2 : decide ((i : Int) < (row.length : Int)) = false := by simpa using hli
  have hie : i = row.length := by omega
  subst hie
  rw [PX]
  (refine Wf @d2 ?_;(repeat clear hK K);repeat refine kq fun K hK=>?_)
  refine Wm ?_
  (refine Wi ?_;repeat clear hK K)
  have hsal := C2 A.length row
  have hft : (if row.length * 2 <= (At (Xf A.length row)).length then C.t 2 ((At (Xf A.length row)).take (row.length * 2)) else C.u) = C.t 2 (At (Xf A.length row)) := by
   rw [if_pos (by rw [A3, hsal]; exact Nat.le_refl _), gE7 (by rw [A3, hsal]; exact Nat.le_refl _)]
  (refine Av (BA (r := ⟨40, 2, true, As (Xf A.length row)⟩) 2 (At (Xf A.length row)) rfl (DA _) (show 0 < (2 : Nat) by omega)) ?_; simp only [ST.frz, A0.frz, AV.frz, C.frz, Nat.le_refl, List.set_cons_zero, List.set_cons_succ, go_sem, hft])
  generalize Xf A.length row = q at *
  (refine Wf (an @A4 (an @List.set_cons_zero.{0} (an @List.set_cons_succ.{0} (an @List.take_succ_cons.{0} (an @List.take_zero.{0} (an @List.drop_zero.{0} (an @List.length_take.{0} (an @List.length_drop.{0} (an @List.length_append.{0} (an @Yi (an @Az (an @AZ (an @BC (an @A5 (an @B6 (an @AH (an @Bd (an @AM @AY)))))))))))))))))) ?_;(repeat clear hK K);repeat refine kq fun K hK=>?_)
  have hcr : (Ai O).map C.ofTr ++ [C.t 2 (At q)] = AC (O ++ [q]) := by simp [AC, Ai, C.ofTr, Function.comp_def]
  refine Wn ?_
  refine hK _ (s + 1) (by omega) (by omega) ?_
  rw [hnx]
  simp only [hcr]
  refine Le.trans (AR (r := ⟨41, 1, true, AC (O ++ [q])⟩) (ri := ⟨65, 5, false, [.s 4 (O.length + 1), .o (1, 3) (Aa cm), .v (.slice none 0 0), .v (.slice none 0 0), .o (1, 4) (Xl dv)]⟩) (ts := Ai (O ++ [q])) 0 0 4 (O.length + 1) (by decide) rfl rfl rfl rfl (show 0 < 1 by omega) (by rw [Af]; simp) (Ee _)) ?_
  simp only [go_sem]
  refine Le.trans (A8 [0, 1] rfl rfl) ?_
  (try simp only [List.set_nil, List.take_nil, List.take_zero, List.map_append, go_sem])
  simp only [XR]
  exact Wo
 have d1 : decide ((s : Int) < (R.length : Int)) = false := by simpa using hlt
 have hse : A ++ (Xg A.length R).take s = CL A R := by rw [gE7 (by rw [Fd]; omega)]; rfl
 have hvW := Nq hA hvR (by omega) (by omega)
 have h1R : 1 <= R.length := (gE4 hlo).1
 rw [hse]
 (refine Wf @d1 ?_;(repeat clear hK K);repeat refine kq fun K hK=>?_)
 refine Wm ?_
 (refine Wi ?_;repeat clear hK K)
 (refine We ?_;(repeat clear hK K);repeat refine kq fun K hK=>?_)
 (refine Wj (KO R true hvR h1R (by omega) hrR) ?_; intro K1 hK1)
 rintro _ _ ⟨D, hD, rfl, rfl⟩
 have hAl : ∀ x, x < A.length -> ∀ y ∈ WG true A x, y < A.length := by
  rcases hA with rfl | hA
  ·intro x hx; simp at hx
  exact Ct true (gEg (gE4 hA).1)
 have hDb := hC.both hAl hlo hD
 have hcl : cm.length = A.length := hC.1
 have hDl := hD.1
 (refine Wk ?_; clear hK1 K1)
 (refine Wf (an @Yi @hDl) ?_;(repeat clear hK K);repeat refine kq fun K hK=>?_)
 refine A6 (fun z : Nat => { tm := [(3, .a (.c (.p 0 0))), (5, .a (.c (.p 1 0))), (6, .i A.length), (17, .a (.c (.t 1 (XQ Ls)))), (18, .i Ls.length), (19, .i k), (67, .a (.c (.t 1 (Aa D)))), (68, .i R.length), (69, .i z)], hp := [.r (XR (CL A R) (cm ++ (D.map (· + (A.length : Int))).take z) dv), .r ⟨25, 1, false, [.t 1 (Ai R)]⟩], n := 147, pin := 0 }) (fun z => z <= R.length) (fun z => R.length - z) 0 ?_ ?_ ?_
 ·omega
 ·simp only [List.take_zero, List.append_nil, XR]
  exact Wo
 clear hs hlt d1 hse
 rintro z hz K hK
 simp only [XR]
 by_cases hlt : z < R.length
 ·have d2 : decide ((z : Int) < (R.length : Int)) = true := by simpa using hlt
  have hkD : z < D.length := by omega
  have gD := Aj (gE1 hkD)
  have hsn : cm ++ (D.map (· + (A.length : Int))).take (z + 1) = (cm ++ (D.map (· + (A.length : Int))).take z) ++ [D[z] + (A.length : Int)] := by
   rw [gE8 (by rw [List.length_map]; exact hkD), <- List.append_assoc]; simp
  have hbd : 0 <= D[z] /\ D[z] < (R.length : Int) := by
   have := BR hvR hD hlt
   rw [gE1 hkD] at this
   have h3 := Option.some.inj this.1
   omega
  have hol : (cm ++ (D.map (· + (A.length : Int))).take z).length <= 1000000 := by rw [List.length_append, List.length_take, List.length_map]; omega
  generalize D[z] = x at *
  generalize cm ++ (D.map (· + (A.length : Int))).take z = O at *
  (refine Wf @d2 ?_;(repeat clear hK K);repeat refine kq fun K hK=>?_)
  refine Wl ?_
  (refine Wf (an @gD (an @Yi (an @hDl (an @List.set_cons_zero.{0} (an @List.set_cons_succ.{0} (an @List.take_succ_cons.{0} (an @List.take_zero.{0} (an @List.drop_zero.{0} (an @List.length_take.{0} (an @List.length_drop.{0} (an @List.length_append.{0} (an @Yi (an @Az (an @AZ (an @BC (an @A5 (an @B6 (an @AH (an @Bd (an @AM @AY)))))))))))))))))))) ?_;(repeat clear hK K);repeat refine kq fun K hK=>?_)
  refine Wn ?_
  refine hK _ (z + 1) (by omega) (by omega) ?_
  rw [hsn]
  refine Le.trans (AR (r := ⟨3, 1, true, A7 (O ++ [x + (A.length : Int)])⟩) (ri := ⟨65, 5, false, [.o (1, 41) (Ai (CL A R)), .s 3 (O.length + 1), .v (.slice none 0 0), .v (.slice none 0 0), .o (1, 4) (Xl dv)]⟩) (ts := Aa (O ++ [x + (A.length : Int)])) 0 1 3 (O.length + 1) (by decide) rfl rfl rfl rfl (show 0 < 1 by omega) (by rw [A5]; simp) (Gd _)) ?_
  simp only [go_sem]
  refine Le.trans (A8 [0, 1] rfl rfl) ?_
  (try simp only [List.set_nil, List.take_nil, List.take_zero, List.map_append, go_sem])
  simp only [XR]
  exact Wo
 have d2 : decide ((z : Int) < (R.length : Int)) = false := by simpa using hlt
 have hse : (D.map (· + (A.length : Int))).take z = D.map (· + (A.length : Int)) := gE7 (by rw [List.length_map]; omega)
 rw [hse]
 have hDbl := hDb.1
 have hWr : ∀ r ∈ CL A R, r.length <= 1000000 := fun r hr2 => by
  rcases List.mem_append.1 hr2 with h | h
  ·exact hrA r h
  obtain ⟨q, hq, rfl⟩ := List.mem_map.1 h
  rw [C2]; exact hrR q hq
 have hdvl := hB.1
 generalize cm ++ D.map (· + (A.length : Int)) = E at *
 (refine Wf @d2 ?_;(repeat clear hK K);repeat refine kq fun K hK=>?_)
 refine Wm ?_
 (refine Wi ?_;repeat clear hK K)
 (refine We ?_;(repeat clear hK K);repeat refine kq fun K hK=>?_)
 (refine AD [] (.m 0 0 0 (.m 1 0 0 (.m 2 0 0 (.m 3 0 0 (.m 4 1 7 (.m 5 1 6 (.a 6 (.a 7 (.m 8 0 0 (.m 9 0 0 (.a 10 .e))))))))))) (by kernel_rfl) (by kernel_rfl) (by intro c st h; simp [Ae, AJ, VD] at h) ?_)
 (refine Wh @Bw ?_; repeat clear hK K)
 (refine W4 rfl rfl ?_; intro K1 hK1; refine StpC.f (A2 (ids := []) (Nx R hvR (by omega) hrR) rfl rfl (by simp only [go_sem]) (by kernel_rfl) (by (simp only [List.append_nil, go_sem]) <;> rfl) ?_))
 rintro _ _ ⟨B, hBR, rfl, rfl⟩
 have hBl := hBR.1
 (refine Wk ?_; clear hK1 K1)
 (refine EY rfl rfl rfl ?_; intro K1 hK1; refine CF rfl rfl rfl rfl (by first | rfl | simp only [CM, List.getD_cons_zero, List.getD_cons_succ, hne, List.isEmpty_cons, Bool.not_false, Bool.true_and, Bool.and_true, Bool.and_self]) rfl ?_; simp only [go_sem, Bw, List.set_cons_zero, List.set_cons_succ, List.take_succ_cons, List.take_zero, List.drop_zero, List.length_take, List.length_drop, List.length_append, Yi, Az, AZ, BC, A5, B6, AH, Bd, AM, AY]; (first | refine hK1 _ ?_ | refine AE (hK1 _ ?_)); clear hK1 K1)
 (refine Wh @Bw ?_; repeat clear hK K)
 (refine W5 rfl rfl rfl rfl ?_; intro K1 hK1; refine B4 rfl ?_; simp only [go_sem]; (first | refine hK1 _ ?_ | refine AE (hK1 _ ?_)); clear hK1 K1)
 refine Cg ⟨by simp, by simp, ?_⟩
 (try simp only [Ae, AJ])
 refine hK _ ?_
 clear hK K
 have hcb : (Xl dv).map C.ofTr ++ (Xl B).map C.ofTr = WP (dv ++ B) := by simp [WP, Xl, C.ofTr, Function.comp_def]
 have hBb := hB.both hAl hlo hBR
 have hcBl : (WP (dv ++ B)).length = dv.length + B.length := by simp [WP]
 simp only [hcb]
 generalize dv ++ B = Z at *
 refine Av (AR (r := ⟨4, 1, true, WP Z⟩) (ri := ⟨65, 5, false, [.o (1, 41) (Ai (CL A R)), .o (1, 3) (Aa E), .v (.slice none 0 0), .v (.slice none 0 0), .s 2 (dv.length + B.length)]⟩) (ts := Xl Z) 0 4 2 (dv.length + B.length) (by decide) rfl rfl rfl rfl (show 0 < 1 by omega) (by rw [hcBl, Nat.mul_one]) (Nw _)) ?_
 simp only [go_sem]
 refine Av (A8 [0] rfl rfl) ?_
 (try simp only [List.set_nil, List.take_nil, List.take_zero, List.map_append, go_sem])
 (refine We ?_;(repeat clear hK K);repeat refine kq fun K hK=>?_)
 refine Wn ?_
 refine hK _ (k + 1, CL A R, E, Z) ⟨by simp only; omega, .inr hvW, ⟨?_, ?_⟩, hWr, hDb, hBb, hbk.symm⟩ (by simp only; omega) ?_
 ·simp only; rw [Ck]; omega
 ·simp only; rw [NV]; omega
 simp only [XR]
 exact Wo
theorem U4 {g : Gh} {w : World} {e : TypeId} {L : List Int} {y : Value} (hr : HR g [.r ⟨e, 1, true, A7 L⟩] w) (h : CR g [.r ⟨e, 1, true, A7 L⟩] w (.s 0 L.length) y) : Rd (Ow [] g) w (.l 1 (Aa L)) y := by
 obtain ⟨_, h1, A, rfl, h3, h4⟩ := h
 cases L with
 | nil => exact Rd.e 1 A _
 | cons a r =>
  have hk : g.κ 0 ≠ 0 := by simp only [List.length_cons] at h1; omega
  have hlive : Lv [.r ⟨e, 1, true, A7 (a :: r)⟩] g (.ob 0) := .inl ⟨_, rfl, hk⟩
  rcases hr.row 0 _ rfl with ⟨k1, _⟩ | ⟨_, _, arr, k3, k4, k5, k6, k7⟩
  ·exact absurd k1 hk
  have hA := h3 hk
  subst hA
  refine Rd.l 1 (Aa (a :: r)) (g.γ (.ob 0)) 0 _ _ (fun j => arr.getD j undef) (by rw [Yi, Nat.mul_one]) (by simp) h1 (fun ho => ?_) (hr.lt hlive) (fun j t hj => ?_) (fun j t hj => ?_)
  ·rcases ho with ho | ⟨ℓ, hl, _⟩
   ·exact hr.md _ hlive ho
   cases ℓ with
   | ob id => rcases hl with ⟨r, h, _⟩ | ⟨kv, h⟩ <;> simp at h
   | cl id j => obtain ⟨r, k, cs, h, _⟩ := hl; simp at h
  ·have hjl : j < (A7 (a :: r)).length := by rw [A5, <- Yi (a :: r)]; exact (List.getElem?_eq_some_iff.1 hj).1
   have hja : j < arr.size := Nat.lt_of_lt_of_le hjl k4
   rw [Nat.zero_add, cell_of_row w _ j arr _ (0, 0) k3, gEd hja]
   simp [Array.getD, hja]
  have hjl : j < (a :: r).length := by rw [<- Yi (a :: r)]; exact (List.getElem?_eq_some_iff.1 hj).1
  rw [Aj (gE1 hjl)] at hj
  cases hj
  obtain ⟨u, u1, u2⟩ := k7 j _ (Ax (gE1 hjl))
  have hu : u = .int .i64 (a :: r)[j] := u2
  have hja : j < arr.size := (Array.getElem?_eq_some_iff.1 u1).1
  have e1 : arr.getD j undef = .int .i64 (a :: r)[j] := by
   rw [gEd hja] at u1
   simp only [Array.getD, hja, dif_pos]
   exact (Option.some.inj u1).trans hu
  rw [e1]; exact Rd.v _ rfl
theorem FC.inS {P : Program} {f : FuncId} {A A' : List AV} {r0 : Row} {val : Value} (hFC : FC P f A [] (fun r o => o = [] /\ r = .a (.c (.v val)))) (hmp : ∀ (k : Nat × Nat) (cs : List Tr) (j : Nat), r0.cells[j]? ≠ some (C.o k cs))
  (hA : ∀ (g : Gh) (w : World) (vals : List Value), HR g [.r r0] w -> GI g [.r r0] w A' vals -> GI g [] w A vals) :
  FC P f A' [.r r0] (fun r o => o = [.r r0] /\ r = .a (.c (.v val))) := by
 intro g w vals hr hargs
 have noL : ∀ (g : Gh) (ℓ : Loc), ¬ Lv [] g ℓ := by
  intro g ℓ hl
  cases ℓ with
  | ob id => rcases hl with ⟨r, h, _⟩ | ⟨kv, h⟩ <;> simp at h
  | cl id j => obtain ⟨r, k, cs, h, _⟩ := hl; simp at h
 have how : ∀ b, Ow [] g b -> Ow [.r r0] g b := fun b ho => by
  rcases ho with ho | ⟨ℓ, hl, _⟩
  ·exact .inl ho
  exact absurd hl (noL _ ℓ)
 have hHR : HR g [] w := ⟨hr.ml, fun ℓ hl => absurd hl (noL _ ℓ), fun ℓ _ hl => absurd hl (noL _ ℓ), fun id r h => by simp at h, fun id r h => by simp at h, hr.gl.keep (Nat.le_refl _) (fun _ _ _ => rfl) (fun k _ h => how k h)⟩
 refine (hFC g w vals hHR (hA g w vals hr hargs)).mono ?_
 rintro en w' ⟨v, r, outs, g', rfl, ⟨rfl, rfl⟩, h1, h2, h3, h4, h5⟩
 have hfx : ∀ b, b < w.heap.size -> w'.heap[b]? = w.heap[b]? := fun b hb => h5.block b hb (fun ⟨ℓ, hl, _⟩ => noL _ ℓ hl)
 have hmo : Mo g [.r r0] w g [.r r0] w' (fun _ => True) := ⟨fun id h => ⟨h, rfl, rfl⟩, fun b _ h => h, h5.size, fun b hb _ => hfx b hb, fun q _ hq r2 j k cs e1 e2 => ⟨r2, e1, e2, fun hlt => World.cell?_of_block (hfx _ hlt)⟩⟩
 refine ⟨v, .a (.c (.v val)), [.r r0], g, rfl, ⟨rfl, rfl⟩, ⟨fun b hb => Nat.lt_of_lt_of_le (hr.ml b hb) h5.size, hr.md, hr.inj, fun id r2 e1 => ?_, fun id kv e1 => ?_, hmo.gl hr.gl⟩, ⟨Nat.le_refl _, Ext.refl _ _⟩, fun ℓ hl => .inl ⟨ℓ, hl, rfl⟩, h4, h5.mono fun k _ ⟨ℓ, hl, _⟩ => absurd hl (noL _ ℓ)⟩
 rotate_left
 ·cases id <;> simp at e1
 refine RowR.mo hmo e1 (hr.row id r2 e1) (fun h0 => hfx _ (hr.lt (.inl ⟨r2, e1, h0⟩))) (fun j k cs hj _ => ?_)
 cases id with
 | zero =>
  simp at e1
  subst e1
  exact absurd hj (hmp k cs j)
 | succ id => simp at e1
theorem FC.inS1 {P : Program} {f : FuncId} {e : TypeId} {L : List Int} {val : Value} (hFC : FC P f [Aq L] [] (fun r o => o = [] /\ r = .a (.c (.v val)))) :
  FC P f [.a (.c (.s 0 L.length))] [.r ⟨e, 1, true, A7 L⟩] (fun r o => o = [.r ⟨e, 1, true, A7 L⟩] /\ r = .a (.c (.v val))) := by
 refine FC.inS hFC (fun k cs j hj => ?_) fun g w vals hr ⟨hl, ha⟩ => ⟨hl, fun i x hx => ?_⟩
 ·obtain ⟨x, _, hx⟩ := List.mem_map.1 (gE9 hj)
  cases hx
 match i, hx with
 | 0, hx =>
  cases hx
  obtain ⟨v, h1, h2⟩ := ha 0 _ rfl
  exact ⟨v, h1, U4 hr h2⟩
 | i + 1, hx => simp at hx
end Go.Proofs.YthnkailnoobdoaaGreatDoor
