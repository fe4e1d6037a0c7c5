/- Lemmas. -/
import Derived.Test.YthnkailnoobdoaaDoorG12
import Derived.Test.YthnkailnoobdoaaDoorZk
import Derived.Test.YthnkailnoobdoaaDoorW03
import Derived.Test.YthnkailnoobdoaaDoorMG
import Derived.Test.YthnkailnoobdoaaDoorMD
import Derived.Test.YthnkailnoobdoaaDoorMF
namespace Go.Proofs.YthnkailnoobdoaaDoor
set_option linter.unusedVariables false
set_option linter.unusedSimpArgs false
open Go.RowKit
set_option maxRecDepth 100000

theorem Jb {s : ST} (i j e k : Nat) {r : Row} (hi : s.hp[i]? = some (.r r)) (hj : r.cells[j]? = some (.v (.slice none 0 0))) (hk : 0 < k) : Le s { s with tm := EQ [i] s.tm, hp := s.hp.set i (.r { r with cells := r.cells.set j (.o (k, e) []) }) ++ [.d] } := by
 have hil := (List.getElem?_eq_some_iff.1 hi).1
 have hjl := (List.getElem?_eq_some_iff.1 hj).1
 have hne : i ≠ s.hp.length := by omega
 have a := PJ (s := s) e k
 have b := Mu (s := { s with hp := s.hp ++ [Ob.r ⟨e, k, true, []⟩] }) i j s.hp.length (r := r) (e0 := e) (k0 := k) hne (by simp only; rw [gEa hil]; exact hi) hj (by simp)
 have c := Be (s := { s with hp := (s.hp ++ [Ob.r ⟨e, k, true, []⟩]).set i (Ob.r { r with cells := r.cells.set j (.s s.hp.length 0) }) }) i j s.hp.length 0 (r := ⟨e, k, true, []⟩) (ri := { r with cells := r.cells.set j (.s s.hp.length 0) }) (ts := []) hne (by simp only; rw [gEc (by simp; omega)]) (by simp only; rw [gEc hjl]) (by simp only; rw [gE5 hne]; simp) rfl hk (by simp) trivial
 have h := (a.trans b).trans c
 have e1 : ((((s.hp ++ [Ob.r ⟨e, k, true, []⟩]).set i (.r { r with cells := r.cells.set j (.s s.hp.length 0) })).set i (.r { r with cells := (r.cells.set j (.s s.hp.length 0)).set j (.o (k, e) []) })).set s.hp.length .d) = s.hp.set i (.r { r with cells := r.cells.set j (.o (k, e) []) }) ++ [.d] := by
  rw [List.set_set, List.set_set, List.set_append_left _ _ hil, List.set_append_right _ _ (by simp)]
  simp
 simp only at h
 rw [e1] at h
 exact h
attribute [local go_sem] lga C.pl C.one
def Jc (Ls : List (List (List Ar))) : List (List Ar) := Ls.foldl BI []
theorem Ie (Ls : List (List (List Ar))) (R : List (List Ar)) : Jc (Ls ++ [R]) = BI (Jc Ls) R := by simp [Jc]
def Ww (Ls : List (List (List Ar))) : List Tr := Ls.map fun R => .l 1 (Ao R)
theorem MQ (Ls : List (List (List Ar))) : (Ww Ls).length = Ls.length := by simp [Ww]
theorem R9 {Ls : List (List (List Ar))} {k : Nat} {R : List (List Ar)} (h : Ls[k]? = some R) : (Ww Ls)[k]? = some (.l 1 (Ao R)) := by simp [Ww, h]
theorem SD {Ls : List (List (List Ar))} {k : Nat} {R : List (List Ar)} (h : Ls[k]? = some R) : ((Ww Ls).drop k).take 1 = [.l 1 (Ao R)] := by
 obtain ⟨hk, e⟩ := List.getElem?_eq_some_iff.1 (R9 h)
 rw [List.drop_eq_getElem_cons hk, e]; rfl
def Wx (A : List (List Ar)) (cm : List Int) (dv : List Bool) : Row := ⟨72, 5, false, [.o (1, 38) (Ao A), .o (1, 3) (Ad cm), .v (.slice none 0 0), .v (.slice none 0 0), .o (1, 4) (W3 dv)]⟩
theorem MR (A R : List (List Ar)) : AA (BI A R) = AA A + AA R := by
 unfold AA BI VY
 rw [List.map_append, List.sum_append, List.map_map]
 have : (List.length ∘ VX A.length) = List.length := by funext r; exact Cc _ r
 rw [this]
def Wy (n : Nat) (row : List Ar) (i : Nat) : List Ar := (VX n row).take i ++ row.drop i
theorem Ra (n : Nat) (row : List Ar) (i : Nat) : (Wy n row i).length = row.length := by simp [Wy, Cc]; omega
theorem OS (n : Nat) (row : List Ar) : Wy n row 0 = row := by simp [Wy]
theorem OT (n : Nat) (row : List Ar) : Wy n row row.length = VX n row := by
 unfold Wy
 rw [gE7 (by rw [Cc]; exact Nat.le_refl _), List.drop_length, List.append_nil]
theorem Rb {n : Nat} {row : List Ar} {i : Nat} (h : i < row.length) : (Wy n row i)[i]? = some row[i] := by
 unfold Wy
 rw [gEb (by rw [List.length_take, Cc]; omega), List.length_take, Cc, Nat.min_eq_left (by omega), Nat.sub_self, List.getElem?_drop]
 simp [h]
theorem Re {n : Nat} {row : List Ar} {i : Nat} (h : i < row.length) : (Wy n row i).set i (row[i].1, row[i].2 + (n : Int)) = Wy n row (i + 1) := by
 unfold Wy
 rw [List.set_append_right _ _ (by rw [List.length_take, Cc]; omega), List.length_take, Cc, Nat.min_eq_left (by omega), Nat.sub_self, List.drop_eq_getElem_cons h, List.set_cons_zero, OQ h, List.append_assoc]
 rfl
theorem OU {xs : List Ar} {i : Nat} {a : Ar} (h : xs[i]? = some a) : (Am xs)[i * 2 + 1]? = some (.v (.int .i64 a.2)) := by
 induction xs generalizing i with
 | nil => simp at h
 | cons b r ih =>
  cases i with
  | zero => simp at h; subst h; rfl
  | succ i =>
   rw [List.getElem?_cons_succ] at h
   rw [show (i + 1) * 2 + 1 = i * 2 + 1 + 2 from by omega]
   exact ih h
def Wz (f : Nat -> Nat) (n k : Nat) : List (List Int) := (List.range n).map fun c => (((List.range k).filter fun s => f s == c).map Int.ofNat)
theorem OV (f : Nat -> Nat) (n : Nat) : Wz f n n = Ws f n := rfl
theorem Rf (f : Nat -> Nat) (n k : Nat) : (Wz f n k).length = n := by simp [Wz]
theorem OW (f : Nat -> Nat) (n : Nat) : List.replicate n (C.o (1, 3) []) = AX (Wz f n 0) := by
 refine List.ext_getElem (by simp [AX, Wz]) fun i h1 h2 => ?_
 simp [AX, Wz, Ad]
theorem Rg {f : Nat -> Nat} {n k c : Nat} (h : c < n) : (Wz f n k)[c]? = some (((List.range k).filter fun s => f s == c).map Int.ofNat) := by simp [Wz, h]
theorem Rh {f : Nat -> Nat} {n k : Nat} (h : f k < n) : (Wz f n k).set (f k) (((List.range k).filter fun s => f s == f k).map Int.ofNat ++ [(k : Int)]) = Wz f n (k + 1) := by
 refine List.ext_getElem (by simp [Wz]) fun i h1 h2 => ?_
 rw [List.getElem_set]
 split
 rotate_left
 ·rename_i e
  simp only [Wz, List.getElem_map, List.getElem_range, List.range_succ, List.filter_append, List.map_append]
  simp [e]
 rename_i e
 subst e
 simp only [Wz, List.getElem_map, List.getElem_range, List.range_succ, List.filter_append, List.map_append]
 simp
theorem Ri (R : List (List Ar)) (D : List Int) (dv : List Bool) (f rk : Nat -> Nat) (hlo : ∀ r ∈ R, ∀ a ∈ r, 0 <= a.2 /\ a.2 < (R.length : Int)) (htot : AA R <= 1000000) (hDl : D.length = R.length) (hD : ∀ v, v < R.length -> D[v]? = some (f v : Int) /\ f v < R.length) (hE : ∀ e ∈ VS f R R.length, (e.1 < R.length /\ f e.1 = e.1) /\ e.2 < R.length /\ f e.2 = e.2 /\ rk e.2 < rk e.1) (hn : R.length <= 1000000) (hr : ∀ r ∈ R, r.length <= 1000000) {n m : Nat} : FC Tryd.prog 40 [.a (.g [.b 0 0 n]), .a (.c (.b 0 1 m))] [.r (Wx R D dv)] (fun r o => ∃ Q, Ha (VS f R R.length) R.length f Q /\ r = .a (.c (.s 1 Q.length)) /\ o = [.r (Wx R D dv), Al (Q.map Int.ofNat)]) := by
 have h := SB R D f rk hlo htot hDl hD hE hn hr
 have h2 : FC Tryd.prog 40 [CC R, AC D] [] (fun r o => ∃ L, (∃ Q, Ha (VS f R R.length) R.length f Q /\ L = Q.map Int.ofNat) /\ r = .a (.c (.s 0 L.length)) /\ o = [.r ⟨3, 1, true, A7 L⟩]) := h.mono fun r o ⟨Q, h1, h2, h3⟩ => ⟨Q.map Int.ofNat, ⟨Q, h1, rfl⟩, by rw [h2, List.length_map], h3⟩
 refine (FC.inB (A' := [.a (.g [.b 0 0 n]), .a (.c (.b 0 1 m))]) (r0 := Wx R D dv) h2 fun g w vals hr ⟨hl, ha⟩ => ⟨hl, fun i x hx => ?_⟩).mono fun r o ⟨L, ⟨Q, h1, e⟩, h2, h3⟩ => ⟨Q, h1, by rw [h2, e, List.length_map], by rw [h3, e]; rfl⟩
 match i, hx with
 | 0, hx =>
  cases hx
  obtain ⟨v, h1, us, h3, h4, h5⟩ := ha 0 _ rfl
  refine ⟨v, h1, us, h3, h4, fun i x hx => ?_⟩
  match i, hx with
  | 0, hx =>
   cases hx
   obtain ⟨u, h6, h7⟩ := h5 0 _ rfl
   exact ⟨u, h6, PO hr rfl h7⟩
  | i + 1, hx => simp at hx
 | 1, hx =>
  cases hx
  obtain ⟨v, h1, h2⟩ := ha 1 _ rfl
  exact ⟨v, h1, (show AVR _ (.a (.c (.t 1 (Ad D)))) v from PO hr (show (Wx R D dv).cells[1]? = some (.o (1, 3) (Ad D)) from rfl) h2)⟩
 | i + 2, hx => simp at hx
set_option maxHeartbeats 8000000 in
theorem MS (Ls : List (List (List Ar))) (h1 : Ls ≠ []) (hm : Ls.length <= 1000) (hv : ∀ R ∈ Ls, AR R = true) (hr : ∀ R ∈ Ls, ∀ r ∈ R, r.length <= 1000000) (hs1 : (Ls.map List.length).sum <= RI) (hs2 : (Ls.map AA).sum <= RJ) :
  FC Tryd.prog 20 [.a (.c (.t 1 (Ww Ls)))] [] (fun r o => r = .a (.c (.p 0 0)) /\ ∃ D Q B, AR (Jc Ls) = true /\ CpOk (Jc Ls) D /\ DvL (Jc Ls) B /\ Ha (VS (VZ D) (Jc Ls) (Jc Ls).length) (Jc Ls).length (VZ D) Q /\ o = [.r (Wv (Jc Ls) D (Q.map Int.ofNat) (Ws (VZ D) (Jc Ls).length) B)]) := by
 refine Af Tryd.func20 rfl (by rw [Tryd.ntmps20]; simp) ?_
 rw [Tryd.ntmps20]
 have hmS : RI = 16384 := rfl
 have hmA : RJ = 262144 := rfl
 simp only [C2]
 (refine UX @MQ ?_;(repeat clear hK K);repeat refine kq fun K hK=>?_)
 refine AO (Jb 0 0 38 1 rfl rfl (by omega)) ?_
 simp only [go_sem]
 refine AO (Jb 0 1 3 1 rfl rfl (by omega)) ?_
 simp only [go_sem]
 refine AO (Jb 0 4 4 1 rfl rfl (by omega)) ?_
 simp only [go_sem]
 refine AO (Ae [0] rfl rfl) ?_
 (try simp only [List.set_nil, List.take_nil, List.take_zero, List.map_append, go_sem])
 refine Ab (fun x : Nat × List (List Ar) × List Int × List Bool => { tm := [(3, .a (.c (.p 0 0))), (17, .a (.c (.t 1 (Ww Ls)))), (18, .i Ls.length), (19, .i x.1)], hp := [.r (Wx x.2.1 x.2.2.1 x.2.2.2)], n := 147, pin := 0 }) (fun x => x.1 <= Ls.length /\ (x.2.1 = [] \/ AR x.2.1 = true) /\ (x.2.1.length + ((Ls.drop x.1).map List.length).sum <= RI /\ AA x.2.1 + ((Ls.drop x.1).map AA).sum <= RJ) /\ (∀ r ∈ x.2.1, r.length <= 1000000) /\ CpOk x.2.1 x.2.2.1 /\ DvL x.2.1 x.2.2.2 /\ x.2.1 = Jc (Ls.take x.1)) (fun x => Ls.length - x.1) (0, [], [], []) ?_ ?_ ?_
 ·exact ⟨by simp, .inl rfl, ⟨by simpa using hs1, by simpa [AA] using hs2⟩, by simp, ⟨rfl, fun v hv => by simp at hv⟩, ⟨rfl, fun v hv => by simp at hv⟩, rfl⟩
 ·simp only [Wx, Ao, Ad, W3, List.map_nil]
  exact V7
 rintro ⟨k, A, cm, dv⟩ ⟨hk, hA, ⟨hz1, hz2⟩, hrA, hC, hB, hAe⟩ K hK
 simp only at hk hA hz1 hz2 hrA hC hB hAe
 simp only [Wx]
 by_cases hlk : k < Ls.length
 rotate_left
 ·have d0 : decide ((k : Int) < (Ls.length : Int)) = false := by simpa using hlk
  have hke : Ls.take k = Ls := gE7 (by omega)
  rw [hke] at hAe
  have hne : A ≠ [] := by
   obtain ⟨Lr, R, rfl⟩ : ∃ Lr R, Ls = Lr ++ [R] := ⟨Ls.dropLast, Ls.getLast h1, (List.dropLast_concat_getLast h1).symm⟩
   have hR := hv R (List.mem_append_right _ List.mem_cons_self)
   have hRl : 1 <= R.length := (gE4 (gEg (gE4 hR).1 : Bd R = true)).1
   rw [Ie] at hAe
   intro h
   have := congrArg List.length (h.symm.trans hAe)
   rw [Az, List.length_nil] at this
   omega
  have hvW : AR A = true := hA.resolve_left hne
  have hWlo : Bd A = true := gEg (gE4 hvW).1
  have hWt : AA A <= 1000000 := by have := (gE4 hWlo).2.2.1; omega
  have hWl : A.length <= 1000000 := by have := (gE4 hWlo).2.1; omega
  have hord := fun n m => Ri A cm dv (VZ cm) (W0 A) (n := n) (m := m) (fun r h a ha => by have := (gE4 hWlo).2.2.2 r h a ha; exact ⟨this.2.2.1, this.2.2.2⟩) hWt hC.1 (fun v hv => ⟨(Bx hvW hC hv).1, (Bx hvW hC hv).2.1⟩) (Ou hvW hC) hWl hrA
  have hcl : cm.length = A.length := hC.1
  (refine UX @d0 ?_;(repeat clear hK K);repeat refine kq fun K hK=>?_)
  refine V5 ?_
  (refine V0 ?_;repeat clear hK K)
  (refine UW ?_;(repeat clear hK K);repeat refine kq fun K hK=>?_)
  (refine Ap 9 [(0, 0), (1, 0), (2, 0), (3, 0), (4, 1), (5, 0), (6, 0), (7, 0), (8, 1), (9, 2), (10, 0), (11, 0), (12, 2)] (by kernel_rfl) (by kernel_rfl) (by intro c st h; simp [Ag, B6, Un] at h) ?_)
  (refine UT ?_; repeat clear hK K)
  (refine TZ (id := 0) (off := 0) (k := (1, 38)) (cs := Ao A) rfl rfl rfl rfl ty27 rfl rfl (by simp only [go_sem]) rfl rfl (show 0 < 1 by omega) ?_; simp only [go_sem, Ac])
  (refine UU @A2 ?_; repeat clear hK K)
  (refine Uv rfl rfl rfl ?_; intro K1 hK1; refine Av (ids := []) [0] (hord A.length cm.length) rfl rfl (by simp only [go_sem]) (by first | assumption | kernel_rfl) rfl rfl (by (simp only [List.map_append, List.append_nil, go_sem]) <;> rfl) (by (simp only [Um, Wx, go_sem]) <;> rfl) ?_ ?_)
  ·rintro _ _ ⟨Q, h1, rfl, rfl⟩; rfl
  rintro _ _ ⟨Q, hQ, rfl, rfl⟩
  simp only [Wx, Al]
  (simp only [AC, BS, Cx, List.append_nil, List.nil_append, List.length_map, go_sem]; refine hK1 _ ?_; clear hK1 K1)
  (refine UT ?_; repeat clear hK K)
  refine AO (Be (r := ⟨3, 1, true, A7 (Q.map Int.ofNat)⟩) (ri := ⟨72, 5, false, [.o (1, 38) (Ao A), .o (1, 3) (Ad cm), .s 1 Q.length, .v (.slice none 0 0), .o (1, 4) (W3 dv)]⟩) (ts := Ad (Q.map Int.ofNat)) 0 2 1 Q.length (by decide) rfl rfl rfl rfl (show 0 < 1 by omega) (by rw [A4]; simp) (KO _)) ?_
  simp only [go_sem]
  refine AO (Ae [0] rfl rfl) ?_
  (try simp only [List.set_nil, List.take_nil, List.take_zero, List.map_append, go_sem])
  refine AO (FB 0 rfl) ?_
  simp only [go_sem, Ur]
  (refine UX (an @Ac (an @A2 @hcl)) ?_;(repeat clear hK K);repeat refine kq fun K hK=>?_)
  rw [OW (VZ cm)]
  refine Ab (fun z : Nat => { tm := [(3, .a (.c (.p 0 0))), (122, .a (.c (.t 1 (Ad cm)))), (123, .i A.length), (124, .i z)], hp := [.r ⟨72, 5, false, [.t 1 (Ao A), .t 1 (Ad cm), .t 1 (Ad (Q.map Int.ofNat)), .s 1 A.length, .t 1 (W3 dv)]⟩, .r ⟨22, 1, true, AX (Wz (VZ cm) A.length z)⟩], n := 147, pin := 0 }) (fun z => z <= A.length) (fun z => A.length - z) 0 ?_ ?_ ?_
  ·omega
  ·exact V7
  rintro z hz K hK
  by_cases hlt : z < A.length
  rotate_left
  ·have d1 : decide ((z : Int) < (A.length : Int)) = false := by simpa using hlt
   have hze : z = A.length := by omega
   subst hze
   rw [OV]
   (refine UX @d1 ?_;(repeat clear hK K);repeat refine kq fun K hK=>?_)
   refine V5 ?_
   (refine V0 ?_;repeat clear hK K)
   refine AO (FB 1 rfl) ?_
   simp only [EK, go_sem]
   have hmlen := J9 (VZ cm) A.length
   generalize hML : Ws (VZ cm) A.length = ML at *
   refine AO (Be (r := ⟨22, 1, true, IQ ML⟩) (ri := ⟨72, 5, false, [.t 1 (Ao A), .t 1 (Ad cm), .t 1 (Ad (Q.map Int.ofNat)), .s 1 A.length, .t 1 (W3 dv)]⟩) (ts := Ch ML) 0 3 1 A.length (by decide) rfl rfl rfl rfl (show 0 < 1 by omega) (by simp [IQ, hmlen]) (QF _)) ?_
   simp only [go_sem]
   refine AO (FB 0 rfl) ?_
   simp only [go_sem, Ur]
   (refine UW ?_;(repeat clear hK K);repeat refine kq fun K hK=>?_)
   refine V8 [0] Tryd.results20 ?_
   rw [<- hAe]
   exact ⟨cm, Q, dv, hvW, hC, hB, hQ, by rw [hML]; rfl⟩
  have d1 : decide ((z : Int) < (A.length : Int)) = true := by simpa using hlt
  obtain ⟨gc0, hfc, _⟩ := Bx hvW hC hlt
  have gc := Ai gc0
  have gN := DC (Rg (f := VZ cm) (k := z) hfc)
  have hns := Rh hfc
  have hnl := Rf (VZ cm) A.length z
  have hol : (((List.range z).filter fun s => VZ cm s == VZ cm z).map Int.ofNat).length <= 1000000 := by
   rw [List.length_map]
   have := List.length_filter_le (fun s => VZ cm s == VZ cm z) (List.range z)
   rw [List.length_range] at this; omega
  generalize ((List.range z).filter fun s => VZ cm s == VZ cm z).map Int.ofNat = oc at *
  generalize hMM : Wz (VZ cm) A.length z = M at *
  obtain ⟨c, hce⟩ : ∃ c, VZ cm z = c := ⟨_, rfl⟩
  rw [hce] at gc gN hns hfc
  (refine UX @d1 ?_;(repeat clear hK K);repeat refine kq fun K hK=>?_)
  refine V4 ?_
  (refine UX (an @gc (an @A2 @hcl)) ?_;(repeat clear hK K);repeat refine kq fun K hK=>?_)
  (refine B2 [0] (.m 0 0 0 (.m 1 0 0 (.m 2 0 0 (.m 4 0 0 (.m 5 0 0 (.m 6 0 0 (.m 7 0 0 (.m 9 0 0 (.m 12 0 0 (.m 3 1 16 (.m 8 1 14 (.m 10 0 0 (.m 11 1 14 (.a 13 (.a 14 (.m 15 0 0 (.a 16 .e))))))))))))))))) (by kernel_rfl) (by kernel_rfl) (by intro c st h; simp [Ag, B6, Un] at h) ?_)
  (refine UZ (an @Bf (an @hnl @gN)) ?_; repeat clear hK K)
  (refine UN rfl rfl ?_; intro K1 hK1; refine C9 rfl ?_; simp only [go_sem]; (first | refine hK1 _ ?_ | refine Aw (hK1 _ ?_)); clear hK1 K1)
  (refine Lb rfl rfl rfl ?_; intro K1 hK1; refine DS rfl rfl rfl rfl (by first | rfl | simp only [D9, List.getD_cons_zero, List.getD_cons_succ, hne, List.isEmpty_cons, Bool.not_false, Bool.true_and, Bool.and_true, Bool.and_self]) rfl ?_; simp only [go_sem, Bf, hnl, gN, List.set_cons_zero, List.set_cons_succ, List.take_succ_cons, List.take_zero, List.drop_zero, List.length_take, List.length_drop, List.length_append, A2, AJ, B4, BL, A4, B8, AH, Bb, AN, B3]; (first | refine hK1 _ ?_ | refine Aw (hK1 _ ?_)); clear hK1 K1)
  (refine UZ (an @Bf (an @hnl @List.length_set.{0})) ?_; repeat clear hK K)
  (refine UO rfl rfl rfl rfl ?_; intro K1 hK1; refine BF rfl ?_; simp only [go_sem, Bf, List.length_set, DD, hnl]; (first | refine hK1 _ ?_ | refine Aw (hK1 _ ?_)); clear hK1 K1)
  refine CB ⟨by simp, by simp, ?_⟩
  (try simp only [Ag, B6])
  refine hK _ ?_
  clear hK K
  have hj6 : ((AX M).set c (C.s 3 (oc.length + 1)))[c]? = some (.s 3 (oc.length + 1)) := by rw [gEc (by rw [Bf]; omega)]
  have hset6 : ((AX M).set c (C.s 3 (oc.length + 1))).set c (.o (1, 3) (Ad (oc ++ [(z : Int)]))) = AX (Wz (VZ cm) A.length (z + 1)) := by rw [DD, EF, <- hns]
  (refine UW ?_;(repeat clear hK K);repeat refine kq fun K hK=>?_)
  refine V6 ?_
  refine hK _ (z + 1) (by omega) (by omega) ?_
  refine Le.trans (Be (r := ⟨3, 1, true, A7 (oc ++ [(z : Int)])⟩) (ri := ⟨22, 1, true, (AX M).set c (C.s 3 (oc.length + 1))⟩) (ts := Ad (oc ++ [(z : Int)])) 1 c 3 (oc.length + 1) (by decide) rfl hj6 rfl rfl (show 0 < 1 by omega) (by rw [A4]; simp) (KO _)) ?_
  simp only [hset6, go_sem]
  refine Le.trans (Ae [0, 1] rfl rfl) ?_
  (try simp only [List.set_nil, List.take_nil, List.take_zero, List.map_append, go_sem])
  (try simp only [CN])
  exact V7
 have d0 : decide ((k : Int) < (Ls.length : Int)) = true := by simpa using hlk
 have gL := SD (gE1 hlk)
 have hvR := hv _ (gE6 hlk)
 have hrR := hr _ (gE6 hlk)
 have htkL : Ls.take (k + 1) = Ls.take k ++ [Ls[k]] := gE8 hlk
 have hbk : Jc (Ls.take (k + 1)) = BI A Ls[k] := by rw [htkL, Ie, hAe]
 have hdr := List.drop_eq_getElem_cons hlk
 rw [hdr] at hz1 hz2
 simp only [List.map_cons, List.sum_cons] at hz1 hz2
 generalize Ls[k] = R at *
 have hlo : Bd R = true := gEg (gE4 hvR).1
 (refine UX @d0 ?_;(repeat clear hK K);repeat refine kq fun K hK=>?_)
 refine V4 ?_
 (refine D1 (an @MQ (an @gL @Ac)) ?_;(repeat clear hK K);repeat refine kq fun K hK=>?_)
 refine Ab (fun s : Nat => { tm := [(3, .a (.c (.p 0 0))), (5, .a (.c (.p 1 0))), (6, .i A.length), (17, .a (.c (.t 1 (Ww Ls)))), (18, .i Ls.length), (19, .i k), (30, .a (.c (.t 1 (Ao R)))), (31, .i R.length), (32, .i s)], hp := [.r (Wx (A ++ (VY A.length R).take s) cm dv), .r ⟨27, 1, false, [.t 1 (Ao R)]⟩], n := 147, pin := 0 }) (fun s => s <= R.length) (fun s => R.length - s) 0 ?_ ?_ ?_
 ·omega
 ·simp only [List.take_zero, List.append_nil, Wx]
  exact V7
 rintro s hs K hK
 simp only [Wx]
 by_cases hlt : s < R.length
 ·have d1 : decide ((s : Int) < (R.length : Int)) = true := by simpa using hlt
  have hgR := gE1 hlt
  have hrl := hrR _ (gE6 hlt)
  have htk := OR (n := A.length) hlt
  have hbr := fun a ha => (gE4 hlo).2.2.2 _ (gE6 hlt) a ha
  have hol : (A ++ (VY A.length R).take s).length <= RI := by rw [List.length_append, List.length_take, Hb]; omega
  have hnx : A ++ (VY A.length R).take (s + 1) = (A ++ (VY A.length R).take s) ++ [VX A.length R[s]] := by rw [htk, List.append_assoc]
  generalize R[s] = row at *
  generalize hO : A ++ (VY A.length R).take s = O at *
  have hcl := Gy (Au row) (by rw [A3]; omega)
  rw [JR, A3, AK] at hcl
  (refine UX (an @Ac @d1) ?_;(repeat clear hK K);repeat refine kq fun K hK=>?_)
  refine V4 ?_
  (refine UX (an @Ac (Bl hgR)) ?_;(repeat clear hK K);repeat refine kq fun K hK=>?_)
  (refine V1 hcl ?_; intro K1 hK1)
  rintro _ _ ⟨rfl, rfl⟩
  (simp only [AC, BS, Co, List.append_nil, List.nil_append, List.length_map, go_sem]; refine hK1 _ ?_; clear hK1 K1)
  (refine UW ?_;(repeat clear hK K);repeat refine kq fun K hK=>?_)
  refine Ab (fun i : Nat => { tm := [(3, .a (.c (.p 0 0))), (5, .a (.c (.p 1 0))), (6, .i A.length), (9, .a (.c (.s 2 row.length))), (17, .a (.c (.t 1 (Ww Ls)))), (18, .i Ls.length), (19, .i k), (30, .a (.c (.t 1 (Ao R)))), (31, .i R.length), (32, .i s), (39, .i row.length), (40, .i i)], hp := [.r (Wx O cm dv), .r ⟨27, 1, false, [.t 1 (Ao R)]⟩, .r ⟨37, 2, true, Am (Wy A.length row i)⟩], n := 147, pin := 0 }) (fun i => i <= row.length) (fun i => row.length - i) 0 ?_ ?_ ?_
  ·omega
  ·simp only [OS, Wx]
   exact V7
  rintro i hi K hK
  simp only [Wx]
  by_cases hli : i < row.length
  ·have d2 : decide ((i : Int) < (row.length : Int)) = true := by simpa using hli
   have hg := Rb (n := A.length) hli
   have hst := Re (n := A.length) hli
   have hba := hbr _ (gE6 hli)
   have hsl := Ra A.length row i
   generalize row[i] = a at *
   obtain ⟨e, t⟩ := a
   simp only at hg hst hba
   have hf1 := OU hg
   have hs1' := EE hg (t + (A.length : Int))
   rw [hst] at hs1'
   simp only at hf1
   (refine UX @d2 ?_;(repeat clear hK K);repeat refine kq fun K hK=>?_)
   refine V4 ?_
   (refine D1 (an @Aj (an @hsl (an @hf1 @hs1'))) ?_;(repeat clear hK K);repeat refine kq fun K hK=>?_)
   refine V6 ?_
   refine hK _ (i + 1) (by omega) (by omega) ?_
   simp only [Wx]
   exact V7
  have d2 : decide ((i : Int) < (row.length : Int)) = false := by simpa using hli
  have hie : i = row.length := by omega
  subst hie
  rw [OT]
  (refine UX @d2 ?_;(repeat clear hK K);repeat refine kq fun K hK=>?_)
  refine V5 ?_
  (refine V0 ?_;repeat clear hK K)
  have hsal := Cc A.length row
  have hft : (if row.length * 2 <= (Au (VX A.length row)).length then C.t 2 ((Au (VX A.length row)).take (row.length * 2)) else C.u) = C.t 2 (Au (VX A.length row)) := by
   rw [if_pos (by rw [A3, hsal]; exact Nat.le_refl _), gE7 (by rw [A3, hsal]; exact Nat.le_refl _)]
  (refine AO (C8 (r := ⟨37, 2, true, Am (VX A.length row)⟩) 2 (Au (VX A.length row)) rfl (F3 _) (show 0 < (2 : Nat) by omega)) ?_; simp only [ST.frz, A0.frz, AV.frz, C.frz, Nat.le_refl, List.set_cons_zero, List.set_cons_succ, go_sem, hft])
  generalize VX A.length row = q at *
  (refine UX (an @Ac (an @List.set_cons_zero.{0} (an @List.set_cons_succ.{0} (an @List.take_succ_cons.{0} (an @List.take_zero.{0} (an @List.drop_zero.{0} (an @List.length_take.{0} (an @List.length_drop.{0} (an @List.length_append.{0} (an @A2 (an @AJ (an @B4 (an @BL (an @A4 (an @B8 (an @AH (an @Bb (an @AN @B3)))))))))))))))))) ?_;(repeat clear hK K);repeat refine kq fun K hK=>?_)
  have hcr : (Ao O).map C.ofTr ++ [C.t 2 (Au q)] = Bm (O ++ [q]) := by simp [Bm, Ao, C.ofTr, Function.comp_def]
  refine V6 ?_
  refine hK _ (s + 1) (by omega) (by omega) ?_
  rw [hnx]
  simp only [hcr]
  refine Le.trans (Be (r := ⟨38, 1, true, Bm (O ++ [q])⟩) (ri := ⟨72, 5, false, [.s 4 (O.length + 1), .o (1, 3) (Ad cm), .v (.slice none 0 0), .v (.slice none 0 0), .o (1, 4) (W3 dv)]⟩) (ts := Ao (O ++ [q])) 0 0 4 (O.length + 1) (by decide) rfl rfl rfl rfl (show 0 < 1 by omega) (by rw [Bw]; simp) (KH _)) ?_
  simp only [go_sem]
  refine Le.trans (Ae [0, 1] rfl rfl) ?_
  (try simp only [List.set_nil, List.take_nil, List.take_zero, List.map_append, go_sem])
  simp only [Wx]
  exact V7
 have d1 : decide ((s : Int) < (R.length : Int)) = false := by simpa using hlt
 have hse : A ++ (VY A.length R).take s = BI A R := by rw [gE7 (by rw [Hb]; omega)]; rfl
 have hvW := En hA hvR (by omega) (by omega)
 have h1R : 1 <= R.length := (gE4 hlo).1
 rw [hse]
 (refine UX @d1 ?_;(repeat clear hK K);repeat refine kq fun K hK=>?_)
 refine V5 ?_
 (refine V0 ?_;repeat clear hK K)
 (refine UW ?_;(repeat clear hK K);repeat refine kq fun K hK=>?_)
 (refine V1 (K6 R true hvR h1R (by omega) hrR) ?_; intro K1 hK1)
 rintro _ _ ⟨D, hD, rfl, rfl⟩
 have hAl : ∀ x, x < A.length -> ∀ y ∈ Vo true A x, y < A.length := by
  rcases hA with rfl | hA
  ·intro x hx; simp at hx
  exact Bv true (gEg (gE4 hA).1)
 have hDb := hC.both hAl hlo hD
 have hcl : cm.length = A.length := hC.1
 have hDl := hD.1
 (refine V3 ?_; clear hK1 K1)
 (refine UX (an @A2 @hDl) ?_;(repeat clear hK K);repeat refine kq fun K hK=>?_)
 refine Ab (fun z : Nat => { tm := [(3, .a (.c (.p 0 0))), (5, .a (.c (.p 1 0))), (6, .i A.length), (17, .a (.c (.t 1 (Ww Ls)))), (18, .i Ls.length), (19, .i k), (67, .a (.c (.t 1 (Ad D)))), (68, .i R.length), (69, .i z)], hp := [.r (Wx (BI A R) (cm ++ (D.map (· + (A.length : Int))).take z) dv), .r ⟨27, 1, false, [.t 1 (Ao R)]⟩], n := 147, pin := 0 }) (fun z => z <= R.length) (fun z => R.length - z) 0 ?_ ?_ ?_
 ·omega
 ·simp only [List.take_zero, List.append_nil, Wx]
  exact V7
 clear hs hlt d1 hse
 rintro z hz K hK
 simp only [Wx]
 by_cases hlt : z < R.length
 ·have d2 : decide ((z : Int) < (R.length : Int)) = true := by simpa using hlt
  have hkD : z < D.length := by omega
  have gD := Ai (gE1 hkD)
  have hsn : cm ++ (D.map (· + (A.length : Int))).take (z + 1) = (cm ++ (D.map (· + (A.length : Int))).take z) ++ [D[z] + (A.length : Int)] := by
   rw [gE8 (by rw [List.length_map]; exact hkD), <- List.append_assoc]; simp
  have hbd : 0 <= D[z] /\ D[z] < (R.length : Int) := by
   have := Bx hvR hD hlt
   rw [gE1 hkD] at this
   have h3 := Option.some.inj this.1
   omega
  have hol : (cm ++ (D.map (· + (A.length : Int))).take z).length <= 1000000 := by rw [List.length_append, List.length_take, List.length_map]; omega
  generalize D[z] = x at *
  generalize cm ++ (D.map (· + (A.length : Int))).take z = O at *
  (refine UX @d2 ?_;(repeat clear hK K);repeat refine kq fun K hK=>?_)
  refine V4 ?_
  (refine UX (an @gD (an @A2 (an @hDl (an @List.set_cons_zero.{0} (an @List.set_cons_succ.{0} (an @List.take_succ_cons.{0} (an @List.take_zero.{0} (an @List.drop_zero.{0} (an @List.length_take.{0} (an @List.length_drop.{0} (an @List.length_append.{0} (an @A2 (an @AJ (an @B4 (an @BL (an @A4 (an @B8 (an @AH (an @Bb (an @AN @B3)))))))))))))))))))) ?_;(repeat clear hK K);repeat refine kq fun K hK=>?_)
  refine V6 ?_
  refine hK _ (z + 1) (by omega) (by omega) ?_
  rw [hsn]
  refine Le.trans (Be (r := ⟨3, 1, true, A7 (O ++ [x + (A.length : Int)])⟩) (ri := ⟨72, 5, false, [.o (1, 38) (Ao (BI A R)), .s 3 (O.length + 1), .v (.slice none 0 0), .v (.slice none 0 0), .o (1, 4) (W3 dv)]⟩) (ts := Ad (O ++ [x + (A.length : Int)])) 0 1 3 (O.length + 1) (by decide) rfl rfl rfl rfl (show 0 < 1 by omega) (by rw [A4]; simp) (KO _)) ?_
  simp only [go_sem]
  refine Le.trans (Ae [0, 1] rfl rfl) ?_
  (try simp only [List.set_nil, List.take_nil, List.take_zero, List.map_append, go_sem])
  simp only [Wx]
  exact V7
 have d2 : decide ((z : Int) < (R.length : Int)) = false := by simpa using hlt
 have hse : (D.map (· + (A.length : Int))).take z = D.map (· + (A.length : Int)) := gE7 (by rw [List.length_map]; omega)
 rw [hse]
 have hDbl := hDb.1
 have hWr : ∀ r ∈ BI A R, r.length <= 1000000 := fun r hr2 => by
  rcases List.mem_append.1 hr2 with h | h
  ·exact hrA r h
  obtain ⟨q, hq, rfl⟩ := List.mem_map.1 h
  rw [Cc]; exact hrR q hq
 have hdvl := hB.1
 generalize cm ++ D.map (· + (A.length : Int)) = E at *
 (refine UX @d2 ?_;(repeat clear hK K);repeat refine kq fun K hK=>?_)
 refine V5 ?_
 (refine V0 ?_;repeat clear hK K)
 (refine UW ?_;(repeat clear hK K);repeat refine kq fun K hK=>?_)
 (refine B2 [] (.m 0 0 0 (.m 1 0 0 (.m 2 0 0 (.m 3 0 0 (.m 4 1 7 (.m 5 1 6 (.a 6 (.a 7 (.m 8 0 0 (.m 9 0 0 (.a 10 .e))))))))))) (by kernel_rfl) (by kernel_rfl) (by intro c st h; simp [Ag, B6, Un] at h) ?_)
 (refine UZ @Bz ?_; repeat clear hK K)
 (refine UN rfl rfl ?_; intro K1 hK1; refine StpC.f (AQ (ids := []) (Mx R hvR (by omega) hrR) rfl rfl (by simp only [go_sem]) (by kernel_rfl) (by (simp only [List.append_nil, go_sem]) <;> rfl) ?_))
 rintro _ _ ⟨B, hBR, rfl, rfl⟩
 have hBl := hBR.1
 (refine V3 ?_; clear hK1 K1)
 (refine Lb rfl rfl rfl ?_; intro K1 hK1; refine DS rfl rfl rfl rfl (by first | rfl | simp only [D9, List.getD_cons_zero, List.getD_cons_succ, hne, List.isEmpty_cons, Bool.not_false, Bool.true_and, Bool.and_true, Bool.and_self]) rfl ?_; simp only [go_sem, Bz, List.set_cons_zero, List.set_cons_succ, List.take_succ_cons, List.take_zero, List.drop_zero, List.length_take, List.length_drop, List.length_append, A2, AJ, B4, BL, A4, B8, AH, Bb, AN, B3]; (first | refine hK1 _ ?_ | refine Aw (hK1 _ ?_)); clear hK1 K1)
 (refine UZ @Bz ?_; repeat clear hK K)
 (refine UO rfl rfl rfl rfl ?_; intro K1 hK1; refine BF rfl ?_; simp only [go_sem]; (first | refine hK1 _ ?_ | refine Aw (hK1 _ ?_)); clear hK1 K1)
 refine CB ⟨by simp, by simp, ?_⟩
 (try simp only [Ag, B6])
 refine hK _ ?_
 clear hK K
 have hcb : (W3 dv).map C.ofTr ++ (W3 B).map C.ofTr = Vz (dv ++ B) := by simp [Vz, W3, C.ofTr, Function.comp_def]
 have hBb := hB.both hAl hlo hBR
 have hcBl : (Vz (dv ++ B)).length = dv.length + B.length := by simp [Vz]
 simp only [hcb]
 generalize dv ++ B = Z at *
 refine AO (Be (r := ⟨4, 1, true, Vz Z⟩) (ri := ⟨72, 5, false, [.o (1, 38) (Ao (BI A R)), .o (1, 3) (Ad E), .v (.slice none 0 0), .v (.slice none 0 0), .s 2 (dv.length + B.length)]⟩) (ts := W3 Z) 0 4 2 (dv.length + B.length) (by decide) rfl rfl rfl rfl (show 0 < 1 by omega) (by rw [hcBl, Nat.mul_one]) (Oz _)) ?_
 simp only [go_sem]
 refine AO (Ae [0] rfl rfl) ?_
 (try simp only [List.set_nil, List.take_nil, List.take_zero, List.map_append, go_sem])
 (refine UW ?_;(repeat clear hK K);repeat refine kq fun K hK=>?_)
 refine V6 ?_
 refine hK _ (k + 1, BI A R, E, Z) ⟨by simp only; omega, .inr hvW, ⟨?_, ?_⟩, hWr, hDb, hBb, hbk.symm⟩ (by simp only; omega) ?_
 ·simp only; rw [Az]; omega
 ·simp only; rw [MR]; omega
 simp only [Wx]
 exact V7
theorem SE {g : Gh} {w : World} {e : TypeId} {L : List Int} {y : Value} (hr : HR g [.r ⟨e, 1, true, A7 L⟩] w) (h : CR g [.r ⟨e, 1, true, A7 L⟩] w (.s 0 L.length) y) : Rd (Ow [] g) w (.l 1 (Ad L)) y := by
 obtain ⟨_, h1, A, rfl, h3, h4⟩ := h
 cases L with
 | nil => exact Rd.e 1 A _
 | cons a r =>
  have hk : g.κ 0 ≠ 0 := by simp only [List.length_cons] at h1; omega
  have hlive : Lv [.r ⟨e, 1, true, A7 (a :: r)⟩] g (.ob 0) := .inl ⟨_, rfl, hk⟩
  rcases hr.row 0 _ rfl with ⟨k1, _⟩ | ⟨_, _, arr, k3, k4, k5, k6, k7⟩
  ·exact absurd k1 hk
  have hA := h3 hk
  subst hA
  refine Rd.l 1 (Ad (a :: r)) (g.γ (.ob 0)) 0 _ _ (fun j => arr.getD j undef) (by rw [A2, Nat.mul_one]) (by simp) h1 (fun ho => ?_) (hr.lt hlive) (fun j t hj => ?_) (fun j t hj => ?_)
  ·rcases ho with ho | ⟨ℓ, hl, _⟩
   ·exact hr.md _ hlive ho
   cases ℓ with
   | ob id => rcases hl with ⟨r, h, _⟩ | ⟨kv, h⟩ <;> simp at h
   | cl id j => obtain ⟨r, k, cs, h, _⟩ := hl; simp at h
  ·have hjl : j < (A7 (a :: r)).length := by rw [A4, <- A2 (a :: r)]; exact (List.getElem?_eq_some_iff.1 hj).1
   have hja : j < arr.size := Nat.lt_of_lt_of_le hjl k4
   rw [Nat.zero_add, cell_of_row w _ j arr _ (0, 0) k3, gEd hja]
   simp [Array.getD, hja]
  have hjl : j < (a :: r).length := by rw [<- A2 (a :: r)]; exact (List.getElem?_eq_some_iff.1 hj).1
  rw [Ai (gE1 hjl)] at hj
  cases hj
  obtain ⟨u, u1, u2⟩ := k7 j _ (Aq (gE1 hjl))
  have hu : u = .int .i64 (a :: r)[j] := u2
  have hja : j < arr.size := (Array.getElem?_eq_some_iff.1 u1).1
  have e1 : arr.getD j undef = .int .i64 (a :: r)[j] := by
   rw [gEd hja] at u1
   simp only [Array.getD, hja, dif_pos]
   exact (Option.some.inj u1).trans hu
  rw [e1]; exact Rd.v _ rfl
theorem FC.inS {P : Program} {f : FuncId} {A A' : List AV} {r0 : Row} {val : Value} (hFC : FC P f A [] (fun r o => o = [] /\ r = .a (.c (.v val)))) (hmp : ∀ (k : Nat × Nat) (cs : List Tr) (j : Nat), r0.cells[j]? ≠ some (C.o k cs))
  (hA : ∀ (g : Gh) (w : World) (vals : List Value), HR g [.r r0] w -> Gj g [.r r0] w A' vals -> Gj g [] w A vals) :
  FC P f A' [.r r0] (fun r o => o = [.r r0] /\ r = .a (.c (.v val))) := by
 intro g w vals hr hargs
 have noL : ∀ (g : Gh) (ℓ : Loc), ¬ Lv [] g ℓ := by
  intro g ℓ hl
  cases ℓ with
  | ob id => rcases hl with ⟨r, h, _⟩ | ⟨kv, h⟩ <;> simp at h
  | cl id j => obtain ⟨r, k, cs, h, _⟩ := hl; simp at h
 have how : ∀ b, Ow [] g b -> Ow [.r r0] g b := fun b ho => by
  rcases ho with ho | ⟨ℓ, hl, _⟩
  ·exact .inl ho
  exact absurd hl (noL _ ℓ)
 have hHR : HR g [] w := ⟨hr.ml, fun ℓ hl => absurd hl (noL _ ℓ), fun ℓ _ hl => absurd hl (noL _ ℓ), fun id r h => by simp at h, fun id r h => by simp at h, hr.gl.keep (Nat.le_refl _) (fun _ _ _ => rfl) (fun k _ h => how k h)⟩
 refine (hFC g w vals hHR (hA g w vals hr hargs)).mono ?_
 rintro en w' ⟨v, r, outs, g', rfl, ⟨rfl, rfl⟩, h1, h2, h3, h4, h5⟩
 have hfx : ∀ b, b < w.heap.size -> w'.heap[b]? = w.heap[b]? := fun b hb => h5.block b hb (fun ⟨ℓ, hl, _⟩ => noL _ ℓ hl)
 have hmo : Mo g [.r r0] w g [.r r0] w' (fun _ => True) := ⟨fun id h => ⟨h, rfl, rfl⟩, fun b _ h => h, h5.size, fun b hb _ => hfx b hb, fun q _ hq r2 j k cs e1 e2 => ⟨r2, e1, e2, fun hlt => World.cell?_of_block (hfx _ hlt)⟩⟩
 refine ⟨v, .a (.c (.v val)), [.r r0], g, rfl, ⟨rfl, rfl⟩, ⟨fun b hb => Nat.lt_of_lt_of_le (hr.ml b hb) h5.size, hr.md, hr.inj, fun id r2 e1 => ?_, fun id kv e1 => ?_, hmo.gl hr.gl⟩, ⟨Nat.le_refl _, Ext.refl _ _⟩, fun ℓ hl => .inl ⟨ℓ, hl, rfl⟩, h4, h5.mono fun k _ ⟨ℓ, hl, _⟩ => absurd hl (noL _ ℓ)⟩
 rotate_left
 ·cases id <;> simp at e1
 refine RowR.mo hmo e1 (hr.row id r2 e1) (fun h0 => hfx _ (hr.lt (.inl ⟨r2, e1, h0⟩))) (fun j k cs hj _ => ?_)
 cases id with
 | zero =>
  simp at e1
  subst e1
  exact absurd hj (hmp k cs j)
 | succ id => simp at e1
theorem FC.inS1 {P : Program} {f : FuncId} {e : TypeId} {L : List Int} {val : Value} (hFC : FC P f [AC L] [] (fun r o => o = [] /\ r = .a (.c (.v val)))) :
  FC P f [.a (.c (.s 0 L.length))] [.r ⟨e, 1, true, A7 L⟩] (fun r o => o = [.r ⟨e, 1, true, A7 L⟩] /\ r = .a (.c (.v val))) := by
 refine FC.inS hFC (fun k cs j hj => ?_) fun g w vals hr ⟨hl, ha⟩ => ⟨hl, fun i x hx => ?_⟩
 ·obtain ⟨x, _, hx⟩ := List.mem_map.1 (gE9 hj)
  cases hx
 match i, hx with
 | 0, hx =>
  cases hx
  obtain ⟨v, h1, h2⟩ := ha 0 _ rfl
  exact ⟨v, h1, SE hr h2⟩
 | i + 1, hx => simp at hx
end Go.Proofs.YthnkailnoobdoaaDoor
