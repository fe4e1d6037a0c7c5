/- Lemmas. -/
import Derived.Test.YthnkailnoobdoaaDoorZk
import Derived.Test.YthnkailnoobdoaaDoorW03
import Derived.Test.YthnkailnoobdoaaDoorW04
import Derived.Test.YthnkailnoobdoaaDoorG72
import Derived.Test.YthnkailnoobdoaaDoorOd1
import Derived.Test.YthnkailnoobdoaaDoorMno
import Derived.Test.YthnkailnoobdoaaDoorG11
import Derived.Test.YthnkailnoobdoaaDoorG51a
namespace Go.Proofs.YthnkailnoobdoaaDoor
set_option linter.unusedVariables false
set_option linter.unusedSimpArgs false
open Go.RowKit
set_option maxRecDepth 100000
attribute [local go_sem] lga C.pl C.one

def CpC (X : List (List Ar)) (D c : List Int) : Prop := ∀ v, v < X.length -> c.getD (VZ D v) 0 = c.getD v 0
theorem SM {X : List (List Ar)} {D cl : List Int} (hv : AR X = true) (h : CpOk X D) (hc : Nrm X.length cl) {v : Nat} (hs : v < X.length) : Vg (B1 X) cl (VZ D v) = Vg (B1 X) cl v := by
 have hcv := (Bx hv h hs).2.1
 refine BQ (Ay _) (Ay _) fun x => ?_
 show x ∈ Vg (B1 X) cl (VZ D v) ↔ x ∈ Vg (B1 X) cl v
 obtain ⟨e, y⟩ := x
 have key : ∀ i : Nat, (e, (i : Int)) ∈ Vg (B1 X) cl (VZ D v) ↔ (e, (i : Int)) ∈ Vg (B1 X) cl v := fun i => by
  by_cases he : e = 0
  ·subst he; rw [Dl hv hcv, Dl hv hs, MM hv h hs]
  rw [CF hv hcv he, CF hv hs he, L4 hv h hs]
 constructor
 rotate_left
 ·intro hx
  obtain ⟨i, _, hy⟩ := Id hv hc hs hx
  simp only at hy
  subst hy
  exact (key i).2 hx
 intro hx
 obtain ⟨i, _, hy⟩ := Id hv hc hcv hx
 simp only at hy
 subst hy
 exact (key i).1 hx
theorem CpC.next {X : List (List Ar)} {D cl : List Int} (hv : AR X = true) (hn : X.length <= 100) (h : CpOk X D) (hc : Nrm X.length cl) (hC : CpC X D cl) : CpC X D (Vi (B1 X) cl) := by
 intro v hs
 have hSl := (DX hv hn).1
 have hcv := (Bx hv h hs).2.1
 unfold Vi
 refine ((BX (Vh (B1 X) cl) (B1 X).length).eq _ _ (by omega) (by omega)).2 ?_
 unfold Vh
 rw [hC v hs, SM hv h hc hs]
theorem CpC.start {X : List (List Ar)} {D : List Int} {B : List Bool} (hv : AR X = true) (h : CpOk X D) (hB : DvL X B) : CpC X D (VP B X.length) := by
 intro v hs
 obtain ⟨_, hcv, p3, p4, _⟩ := Bx hv h hs
 rw [Cp hcv, Cp hs]
 have e : B.getD (VZ D v) false = B.getD v false := by
  rw [Bool.eq_iff_iff, hB.2 _ hcv, hB.2 _ hs]
  exact ⟨fun ⟨g, q1, q2⟩ => ⟨g, p3.trans q1, q2⟩, fun ⟨g, q1, q2⟩ => ⟨g, p4.trans q1, q2⟩⟩
 unfold VO
 rw [e]
theorem KeyOf.cp {X : List (List Ar)} {D cl L : List Int} (hv : AR X = true) (h : CpOk X D) (hC : CpC X D cl) {v : Nat} (hs : v < X.length) (hk : KeyOf X cl (VZ D v) L) : KeyOf X cl v L := by
 obtain ⟨t, V, e1, e2, e3, e4, e5⟩ := hk.ex
 refine ⟨t, V, by rw [<- hC v hs]; exact e1, e2.iff fun i _ => MM hv h hs, e3, fun p hp => ?_, fun e i hr => e5 e i ((L4 hv h hs).2 hr)⟩
 obtain ⟨a1, a2, i, a3⟩ := e4 p hp
 exact ⟨a1, a2.iff fun i _ => L4 hv h hs, i, (L4 hv h hs).1 a3⟩
theorem SN {X : List (List Ar)} {cl : List Int} (hv : AR X = true) {s i : Nat} {e : Int} (h : RV X cl s e i) : 0 <= e /\ e <= 1025 := by
 obtain ⟨_, u, hu, _, a, ha, rfl, _⟩ := h
 have := D8 hv hu ha
 exact ⟨this.1, this.2.1⟩
theorem KeyOf.mk2 {X : List (List Ar)} {cl : List Int} (hv : AR X = true) (hc : Nrm X.length cl) (hn : X.length <= 64) {s w : Nat} {H : List Ob} {V : List (Int × Nat × Nat)} {VL : List (Int × Nat)} (hw : WS w (RT X cl s)) (hV : VSt H 6 V (RV X cl s)) (h1 : Vb (VL.map (·.1))) (h2 : ∀ q, q ∈ VL ↔ ∃ p ∈ V, q = (p.1, p.2.2)) : KeyOf X cl s (Fh (cl.getD s 0) w VL) := by
 refine ⟨w, VL, rfl, hw, h1, fun q hq => ?_, fun e i hr => ?_⟩
 rotate_left
 ·have hi := Tn hv hc hr
  obtain ⟨p, hp, rfl, _⟩ := (hV.ex e i (by omega)).2 hr
  exact List.mem_map.2 ⟨_, (h2 _).2 ⟨p, hp, rfl⟩, rfl⟩
 obtain ⟨p, hp, rfl⟩ := (h2 q).1 hq
 obtain ⟨o1, o2, o3, i, hi, ho⟩ := hV.ob p hp
 have hex := (hV.ex p.1 i hi).1 ⟨p, hp, rfl, ho⟩
 refine ⟨SN hv hex, ⟨o3, fun i hi => ?_⟩, i, hex⟩
 rw [<- hV.ex p.1 i hi]
 constructor
 ·intro hb; exact ⟨p, hp, rfl, hb⟩
 rintro ⟨p', hp', e1, hb⟩
 rw [<- G0 hV.nd hp' hp e1]; exact hb
theorem KeyOf.nn {X : List (List Ar)} {cl L : List Int} (hc : Nrm X.length cl) (hn : X.length <= 64) {s : Nat} (hs : s < X.length) (h : KeyOf X cl s L) : Tm L := by
 obtain ⟨t, V, rfl, e2, e3, e4, e5⟩ := h.ex
 have hcl := hc.len
 have hm : cl.getD s 0 ∈ cl := by rw [gE2, gE1 (by omega)]; exact gE6 _
 have hr := hc.rng _ hm
 intro x hx
 unfold Fh at hx
 simp only [List.mem_cons, List.mem_append, List.mem_flatMap] at hx
 rcases hx with rfl | rfl | hx | ⟨p, hp, rfl | rfl | hx⟩
 ·omega
 ·have := Cr t; omega
 ·have := Ka x hx; omega
 ·have := (e4 p hp).1; omega
 ·have := Cr p.2; omega
 have := Ka x hx; omega
theorem Tt {X : List (List Ar)} {cl : List Int} {ky : List Value} (hv : AR X = true) (hn : X.length <= 64) (hc : Nrm X.length cl) (hl : ky.length = X.length) (h : ∀ s, s < X.length -> ∃ L, ky[s]? = some (J5 L) /\ KeyOf X cl s L) : RL ky (Vh (B1 X) cl) := by
 intro a b ha hb
 rw [hl] at ha hb
 obtain ⟨L, h1, h2⟩ := h a ha
 obtain ⟨M, h3, h4⟩ := h b hb
 rw [gE2, h1, gE2, h3, Option.getD_some, Option.getD_some, QX (h2.nn hc hn ha) (h4.nn hc hn hb)]
 congr 1
 rw [decide_eq_decide]
 exact KeyOf.iff hv hn hc ha hb h2 h4
theorem HS.setK {r0 : Row} {n : Nat} {H : List Ob} {tc vc : List C} {ky : List Value} (h : HS r0 ⟨9, 1, true, Wo ky⟩ n H tc vc) (ky' : List Value) : HS r0 ⟨9, 1, true, Wo ky'⟩ n (H.set 1 (.r ⟨9, 1, true, Wo ky'⟩)) tc vc :=
 ⟨by rw [gE5 (by omega)]; exact h.h0, gEc (Ba h.hx), by rw [gE5 (by omega)]; exact h.h1, by rw [gE5 (by omega)]; exact h.h2, by rw [gE5 (by omega)]; exact h.h3, by rw [gE5 (by omega)]; exact h.h4, BN h.ok (y := .r ⟨9, 1, true, Wo ky'⟩) (by show (Wo ky').all C.pl = true; simp [Wo, C.pl]) 1⟩
theorem TA.set1 {X : List (List Ar)} {cl : List Int} {Q : List Nat} {k : Nat} {H : List Ob} {tc : List C} (h : TA X cl Q k H tc) (ob : Ob) : TA X cl Q k (H.set 1 ob) tc := ⟨h.1, h.2.1, fun j c hj hc => by
 obtain ⟨y, w, a, b, d, e⟩ := h.2.2 j c hj hc
 exact ⟨y, w, a, b, by rw [gE5 (by omega)]; exact d, e⟩⟩
theorem TB.set1 {X : List (List Ar)} {cl : List Int} {Q : List Nat} {k : Nat} {H : List Ob} {vc : List C} (h : TB X cl Q k H vc) (ob : Ob) : TB X cl Q k (H.set 1 ob) vc := ⟨h.1, h.2.1, fun j c hj hc => by
 obtain ⟨m, V, a, a2, b, d⟩ := h.2.2 j c hj hc
 refine ⟨m, V, a, a2, by rw [gE5 (by omega)]; exact b, d.nd, d.nk, fun p hp => ?_, d.ex⟩
 obtain ⟨q1, q2, q3⟩ := d.ob p hp
 exact ⟨q1, by rw [gE5 (by omega)]; exact q2, q3⟩⟩
theorem SO (ky : List Value) : (Wo ky).all C.pl = true := by simp [Wo, C.pl]
section
variable {o : Oper} {st : ST} {K : ST -> Prop} {α : Type} [DecidableEq α]
theorem GJ {x : Operand} {ts : Array TypeId} {a : Nat} {ky : List Value} (g : Nat -> α) (hky : RL ky g) (hn : ky.length <= 1000000) (hd : Ue o st.n = true) (ho : o.op = .call { callee := .value (.func 41), args := #[x], argTypes := ts }) (hx : st.ev x = .a (.c (.s a ky.length))) (ha : st.hp[a]? = some (.r ⟨9, 1, true, Wo ky⟩))
  (hnb : EQ [a] st.tm = st.tm) (h : K ({ st with hp := st.hp ++ [Al (Vf g ky.length).1] }.put o.dst (.tup [.c (.s st.hp.length ky.length), .c (.v (.int .i64 (Vf g ky.length).2))]))) : Stp Tryd.prog o st K := by
 have i1 : idx [a] a 0 = some 0 := by simp [idx]
 have hren : (Ob.r ⟨9, 1, true, Wo ky⟩).ren [a] = .r ⟨9, 1, true, Wo ky⟩ := by simp [Ob.ren, EL]
 refine Av (ids := []) [a] (Rm ky g hky hn) hd ho rfl (by kernel_rfl) rfl (by simp [Ba ha]) ?_ ?_ ?_ ?_
 ·simp [hx, E7, AV.ren, A0.ren, C.ren, i1]
 ·simp only [Um, List.map_cons, List.map_nil, CG ha, hren]
 ·rintro r outs ⟨rfl, rfl⟩; rfl
 rintro r outs ⟨rfl, rfl⟩
 have e : st.back [a] [.r ⟨9, 1, true, Wo ky⟩, Al (Vf g ky.length).1] = { st with hp := st.hp ++ [Al (Vf g ky.length).1] } := by
  unfold ST.back
  rw [hnb]
  have e2 : (Ob.r ⟨9, 1, true, Wo ky⟩).up (Up [a] st.hp.length) = .r ⟨9, 1, true, Wo ky⟩ := by simp [Ob.up, SF]
  simp only [List.map_cons, List.map_nil, Ho, e2, C0]
  rw [Fi ha]
 rw [e]
 have e3 : (AV.tup [.c (.s 1 ky.length), .c (.v (.int .i64 (Vf g ky.length).2))]).up (Up [a] st.hp.length) = .tup [.c (.s st.hp.length ky.length), .c (.v (.int .i64 (Vf g ky.length).2))] := by simp [AV.up, A0.up, C.up, Up]
 rw [e3]; exact h
end
set_option maxHeartbeats 8000000 in
theorem N9 (X : List (List Ar)) (D : List Int) (Q : List Nat) (dv : List Bool) (hv : AR X = true) (hn : X.length <= 64) (hr : ∀ r ∈ X, r.length <= 1000000) (hD : CpOk X D) (hQ : Ha (VS (VZ D) X X.length) X.length (VZ D) Q) (hB : DvL X dv) : FC Tryd.prog 21 [.a (.c (.p 0 0))] [.r (Wv X D (Q.map Int.ofNat) (Ws (VZ D) X.length) dv)] (fun r o => ∃ c, WkC X c /\ Nrm X.length c /\ r = AC c /\ o = [.r (Wv X D (Q.map Int.ofNat) (Ws (VZ D) X.length) dv)]) := by
 refine Af Tryd.func21 rfl (by rw [Tryd.ntmps21]; simp) ?_
 rw [Tryd.ntmps21]
 have hlo : Bd X = true := gEg (gE4 hv).1
 have h1 : 1 <= X.length := (gE4 hlo).1
 have hDl := hD.1
 have hBl := hB.1
 simp only [C2, Wv]
 (refine UX (an @Ac (an @Bz @hBl)) ?_;(repeat clear hK K);repeat refine kq fun K hK=>?_)
 have e0 : List.replicate X.length (C.v (.string { data := #[] })) = Wo (Wp WE WF dv X.length 0) := by rw [OH]; simp [Wo, WF]
 rw [e0]
 refine Ab (fun k : Nat => { tm := [(0, .a (.c (.p 0 0))), (3, .a (.c (.s 1 X.length))), (23, .a (.c (.t 1 (W3 dv)))), (24, .i X.length), (25, .i k)], hp := [.r (Wv X D (Q.map Int.ofNat) (Ws (VZ D) X.length) dv), .r ⟨9, 1, true, Wo (Wp WE WF dv X.length k)⟩], n := 86, pin := 1 }) (fun k => k <= X.length) (fun k => X.length - k) 0 ?_ ?_ ?_
 ·omega
 ·simp only [Wv]
  exact V7
 rintro k hk K hK
 simp only [Wv]
 by_cases hlt : k < X.length
 ·have d1 : decide ((k : Int) < (X.length : Int)) = true := by simpa using hlt
  have gB : (W3 dv)[k]? = some (.v (.bool (dv.getD k false))) := Hc (by rw [gE2, gE1 (by omega)]; rfl)
  have hkt := OI (kd := WE) (ke := WF) (B := dv) (n := X.length) (k := k)
  have hkf := MD (kd := WE) (ke := WF) (B := dv) (n := X.length) (k := k)
  have hkl := Hg WE WF dv X.length k
  generalize dv.getD k false = b at *
  (refine UX @d1 ?_;(repeat clear hK K);repeat refine kq fun K hK=>?_)
  refine V4 ?_
  (refine UX (an @Bz (an @hBl @gB)) ?_;(repeat clear hK K);repeat refine kq fun K hK=>?_)
  cases b with
  | true =>
   have hkt := hkt rfl
   refine V4 ?_
   have hks : (Wo (Wp WE WF dv X.length k)).set k (C.v (Value.string { data := #[100, 105, 118, 101, 114, 103, 101, 110, 116] })) = Wo (Wp WE WF dv X.length (k + 1)) := by rw [<- hkt]; exact J7 _ _ _
   (refine D1 (an @FY (an @hkl @hks)) ?_;(repeat clear hK K);repeat refine kq fun K hK=>?_)
   refine V6 ?_
   refine hK _ (k + 1) (by omega) (by omega) ?_
   simp only [Wv]
   exact V7
  | false =>
   have hkf := hkf rfl
   refine V5 ?_
   (refine UW ?_;(repeat clear hK K);repeat refine kq fun K hK=>?_)
   refine V6 ?_
   refine hK _ (k + 1) (by omega) (by omega) ?_
   rw [hkf]
   simp only [Wv]
   exact V7
 have d1 : decide ((k : Int) < (X.length : Int)) = false := by simpa using hlt
 have hke : k = X.length := by omega
 rw [hke] at d1
 rw [hke]
 have hko := Sv (kd := WE) (ke := WF) (by kernel_rfl) (by kernel_rfl) (by kernel_rfl) (by kernel_rfl) dv X.length
 have hkl := Hg WE WF dv X.length X.length
 obtain ⟨hnm, _⟩ := Sf (B := dv) X.length h1
 have hN0 := IX dv h1
 have hC0 := CpC.start hv hD hB
 have hc0 : EW X.length (VP dv X.length) = (Vf (fun s => dv.getD s false) X.length).2 := by rw [<- hnm, LW]
 generalize Wp WE WF dv X.length X.length = ky0 at *
 (refine UX @d1 ?_;(repeat clear hK K);repeat refine kq fun K hK=>?_)
 refine V5 ?_
 (refine V0 ?_;repeat clear hK K)
 (refine UW ?_;(repeat clear hK K);repeat refine kq fun K hK=>?_)
 (refine Aa rfl ?_; intro K1 hK1; refine GJ (a := 1) (ky := ky0) (fun s => dv.getD s false) hko (by omega) rfl rfl (by simp only [go_sem, hkl]) rfl (by simp [EQ, AV.nb, A0.nb, C.nb]) ?_; simp only [go_sem]; refine hK1 _ ?_; clear hK1 K1)
 rw [hkl, hnm, <- hc0]
 clear hnm hc0
 generalize hc00 : VP dv X.length = c0 at *
 have hN0l := hN0.len
 (refine UW ?_;(repeat clear hK K);repeat refine kq fun K hK=>?_)
 simp only [Al, List.length_cons, List.length_nil, Nat.zero_add, List.cons_append, List.nil_append]
 have hf0 : (if X.length <= (Ad c0).length then C.t 1 ((Ad c0).take X.length) else C.u) = C.t 1 (Ad c0) := by rw [if_pos (by rw [A2]; omega), gE7 (by rw [A2]; omega)]
 (refine AO (C8 (r := ⟨3, 1, true, A7 c0⟩) 2 (Ad c0) rfl (KO _) (show 0 < (1 : Nat) by omega)) ?_; simp only [ST.frz, A0.frz, AV.frz, C.frz, Nat.le_refl, List.set_cons_zero, List.set_cons_succ, go_sem, hf0])
 have hSl := (DX hv (by omega)).1
 refine Ab (fun x : Nat × List Int × List Value => { tm := [(0, .a (.c (.p 0 0))), (3, .a (.c (.s 1 X.length))), (6, .a (.c (.t 1 (Ad x.2.1)))), (7, .i (EW X.length x.2.1))], hp := [.r (Wv X D (Q.map Int.ofNat) (Ws (VZ D) X.length) dv), .r ⟨9, 1, true, Wo x.2.2⟩], n := 86, pin := 1 }) (fun x => x.2.1 = Vj (B1 X) c0 x.1 /\ Nrm X.length x.2.1 /\ CpC X D x.2.1 /\ x.2.2.length = X.length) (fun x => X.length - EW X.length x.2.1) (0, c0, ky0) ?_ ?_ ?_
 ·exact ⟨rfl, hN0, hC0, hkl⟩
 ·refine Le.trans (Ae [0, 1] rfl rfl) ?_
  (try simp only [List.set_nil, List.take_nil, List.take_zero, List.map_append, go_sem])
  (try simp only [EL])
  simp only [Wv]
  exact V7
 clear hk hlt d1 hke hko
 rintro ⟨j, nw, ky⟩ ⟨hit, hN, hC, hkyl⟩ K hK
 simp only at hit hN hC hkyl
 simp only
 have hcn := LX X.length nw
 have hNl := hN.len
 have hcn1 : 1 <= EW X.length nw := by
  have := (BX (fun s => nw.getD s 0) X.length).rng 0 (by omega)
  unfold EW; omega
 have hnn := PA (B1 X) nw
 have hnl := Qi (S := B1 X) (by rw [hSl]; exact hN)
 rw [hSl] at hnn hnl
 have hcn2 := LX X.length (Vi (B1 X) nw)
 have hnc : EW X.length (Vi (B1 X) nw) = (Vf (Vh (B1 X) nw) X.length).2 := by
  have := LW (Vh (B1 X) nw) X.length
  unfold Vi; rw [hSl]; exact this
 have hnc1 : (Vf (Vh (B1 X) nw) X.length).1 = Vi (B1 X) nw := by unfold Vi; rw [hSl]
 have hCn := hC.next hv (by omega) hD hN
 (refine UW ?_;(repeat clear hK K);repeat refine kq fun K hK=>?_)
 (refine Aa rfl ?_; intro K1 hK1; refine D0 (f := 42) (ids := []) (R := fun r o => r = .a (.c (.p 5 0)) /\ ∃ tc vc, HS (Wv X D (Q.map Int.ofNat) (Ws (VZ D) X.length) dv) ⟨9, 1, true, Wo ky⟩ X.length o tc vc /\ TA X nw Q Q.length o tc /\ TB X nw Q Q.length o vc) rfl rfl (by simp only [go_sem]) (by kernel_rfl) (SC X D nw Q dv (EW X.length nw) ⟨9, 1, true, Wo ky⟩ (SO ky) (EL ky) hv hn hr hD hQ hN hcn1 (by omega)) (fun r outs h => Hi h.2.choose_spec.choose_spec.1.ok) ?_)
 rintro r G ⟨rfl, tc, vc, hH, hT, hTB⟩
 (simp only [go_sem]; refine hK1 _ ?_; clear hK1 K1)
 have gs := hH.h0
 (refine UX (an @gs (an @Gk (an @A2 @hDl))) ?_;(repeat clear hK K);repeat refine kq fun K hK=>?_)
 refine Ab (fun x : Nat × List Ob × List Value => { tm := [(0, .a (.c (.p 0 0))), (3, .a (.c (.s 1 X.length))), (6, .a (.c (.t 1 (Ad nw)))), (7, .i (EW X.length nw)), (8, .a (.c (.p 5 0))), (47, .a (.c (.t 1 (Ad D)))), (48, .i X.length), (49, .i x.1)], hp := x.2.1, n := 86, pin := 1 }) (fun x => x.1 <= X.length /\ x.2.2.length = X.length /\ (∀ s, s < x.1 -> ∃ L, x.2.2[s]? = some (J5 L) /\ KeyOf X nw s L) /\ HS (Wv X D (Q.map Int.ofNat) (Ws (VZ D) X.length) dv) ⟨9, 1, true, Wo x.2.2⟩ X.length x.2.1 tc vc /\ TA X nw Q Q.length x.2.1 tc /\ TB X nw Q Q.length x.2.1 vc) (fun x => X.length - x.1) (0, G, ky) ?_ ?_ ?_
 ·exact ⟨by simp, hkyl, fun s hs => by simp at hs, hH, hT, hTB⟩
 ·exact V7
 clear hH hT hTB gs hkyl
 rintro ⟨k, G, ky⟩ ⟨hk, hkyl, hkys, hH, hT, hTB⟩ K hK
 simp only at hk hkyl hkys hH hT hTB
 simp only
 by_cases hlk : k < X.length
 rotate_left
 ·have d2 : decide ((k : Int) < (X.length : Int)) = false := by simpa using hlk
  have hke : k = X.length := by omega
  have hko := Tt hv hn hN hkyl (fun s hs => hkys s (by omega))
  have g0 := hH.h0
  have g1 := hH.hx
  (refine UX @d2 ?_;(repeat clear hK K);repeat refine kq fun K hK=>?_)
  refine V5 ?_
  (refine V0 ?_;repeat clear hK K)
  (refine UW ?_;(repeat clear hK K);repeat refine kq fun K hK=>?_)
  (refine Aa rfl ?_; intro K1 hK1; refine GJ (a := 1) (ky := ky) (Vh (B1 X) nw) hko (by omega) rfl rfl (by simp only [go_sem, hkyl]) g1 (by simp [EQ, AV.nb, A0.nb, C.nb]) ?_; simp only [go_sem]; refine hK1 _ ?_; clear hK1 K1)
  rw [hkyl, hnc1, <- hnc]
  (refine UW ?_;(repeat clear hK K);repeat refine kq fun K hK=>?_)
  have hG6 := Ba hH.h4
  obtain ⟨lg, hlg⟩ : ∃ l, G.length = l := ⟨_, rfl⟩
  rw [hlg] at hG6
  simp only [hlg]
  have gn := B9 G (Al (Vi (B1 X) nw))
  rw [hlg] at gn
  have g0' := (Pre.push G (Al (Vi (B1 X) nw))).at g0
  have g1' := (Pre.push G (Al (Vi (B1 X) nw))).at g1
  generalize G ++ [Al (Vi (B1 X) nw)] = G2 at *
  refine AO (BJ (tm := [(0, .a (.c (.p 0 0))), (3, .a (.c (.s 1 X.length))), (6, .a (.c (.t 1 (Ad nw)))), (7, .i (EW X.length nw)), (11, .a (.c (.s lg X.length))), (12, .i (EW X.length (Vi (B1 X) nw))), (82, .b (((EW X.length (Vi (B1 X) nw) : Nat) : Int) == ((EW X.length nw : Nat) : Int)))]) ?_) ?_
  ·simp only [DG, go_sem]; try simp
  have i1 : idx [0, 1, lg] 1 0 = some 1 := by simp [idx]
  have i2 : idx [0, 1, lg] lg 0 = some 2 := by
   have e1 : ¬ 0 = lg := by omega
   have e2 : ¬ 1 = lg := by omega
   simp [idx, e1, e2]
  refine AO (Ae [0, 1, lg] ?_ rfl) ?_
  ·have e1 : ¬ 0 = lg := by omega
   have e2 : ¬ 1 = lg := by omega
   simp [AY]; omega
  have i0 : idx [0, 1, lg] 0 0 = some 0 := rfl
  have hr1 : (Ob.r (Wv X D (Q.map Int.ofNat) (Ws (VZ D) X.length) dv)).ren [0, 1, lg] = .r (Wv X D (Q.map Int.ofNat) (Ws (VZ D) X.length) dv) := by simp [Ob.ren, Wv, C.ren]
  have hr2 : (Ob.r ⟨9, 1, true, Wo ky⟩).ren [0, 1, lg] = .r ⟨9, 1, true, Wo ky⟩ := by simp [Ob.ren, EL]
  have hr3 := G1 (Vi (B1 X) nw) [0, 1, lg]
  simp only [ST.pick, List.map_cons, List.map_nil, AV.ren, A0.ren, C.ren, AV.i, AV.b, i0, i1, i2, CG g0', CG g1', CG gn, hr1, hr2, hr3]
  by_cases hceq : EW X.length (Vi (B1 X) nw) = EW X.length nw
  ·have hfx : Vi (B1 X) nw = nw := Decidable.byContradiction fun h => by have := hnl h; omega
   have d4 : (((EW X.length (Vi (B1 X) nw) : Nat) : Int) == ((EW X.length nw : Nat) : Int)) = true := by rw [hceq]; simp
   simp only [d4]
   refine V4 ?_
   (refine UW ?_;(repeat clear hK K);repeat refine kq fun K hK=>?_)
   ((try refine AM ?_); (try simp only [Ag, B6]); refine BG (Ae [0] rfl rfl) ?_; (try simp only [List.set_nil, List.take_nil, List.take_zero, List.map_append, go_sem]); ((try refine AM ?_); (try refine A6 ?_); (try simp only [Ag, B6]); refine BP (by first | exact .inl rfl | exact .inr rfl) rfl ?_; simp only [Uo, Fy, F0, Ge, Tryd.results21, go_sem, true_and, and_true, AC, Wv]))
   exact ⟨nw, ⟨dv, hB, j, by rw [hc00]; exact hit, hfx⟩, hN, rfl⟩
  have hne : Vi (B1 X) nw ≠ nw := fun h => hceq (by rw [h])
  have hlt2 := hnl hne
  have d4 : (((EW X.length (Vi (B1 X) nw) : Nat) : Int) == ((EW X.length nw : Nat) : Int)) = false := by simp only [beq_eq_false_iff_ne, ne_eq]; omega
  simp only [d4]
  refine V5 ?_
  (refine UW ?_;(repeat clear hK K);repeat refine kq fun K hK=>?_)
  refine V6 ?_
  refine hK _ (j + 1, Vi (B1 X) nw, ky) ⟨?_, hnn, hCn, hkyl⟩ (by simp only; omega) ?_
  ·simp only
   rw [show Vj (B1 X) c0 (j + 1) = Vi (B1 X) (Vj (B1 X) c0 j) from rfl, <- hit]
  simp only
  have hw2l := hnn.len
  generalize hw2 : Vi (B1 X) nw = w2 at *
  have hf0 : (if X.length <= (Ad w2).length then C.t 1 ((Ad w2).take X.length) else C.u) = C.t 1 (Ad w2) := by rw [if_pos (by rw [A2]; omega), gE7 (by rw [A2]; omega)]
  simp only [Al]
  (refine Rn (C8 (r := ⟨3, 1, true, A7 w2⟩) 2 (Ad w2) rfl (KO _) (show 0 < (1 : Nat) by omega)) ?_; simp only [ST.frz, A0.frz, AV.frz, C.frz, Nat.le_refl, List.set_cons_zero, List.set_cons_succ, go_sem, hf0])
  refine Le.trans (Ae [0, 1] rfl rfl) ?_
  (try simp only [List.set_nil, List.take_nil, List.take_zero, List.map_append, go_sem])
  (try simp only [EL])
  simp only [Wv]
  exact V7
 have d2 : decide ((k : Int) < (X.length : Int)) = true := by simpa using hlk
 obtain ⟨gD0, hfk, hr1, hr2, hff⟩ := Bx hv hD hlk
 have gD := Ai gD0
 have hle : VZ D k <= k := by
  obtain ⟨m, e1, _, _, e4⟩ := hD.2 k hlk
  rw [Mp gD0] at e1
  have := e4 k (.refl _) (.refl _)
  omega
 have g1 := hH.hx
 have hcl : (Wo ky).length = X.length := by rw [FY, hkyl]
 (refine UX @d2 ?_;(repeat clear hK K);repeat refine kq fun K hK=>?_)
 refine V4 ?_
 (refine UX (an @gD (an @A2 @hDl)) ?_;(repeat clear hK K);repeat refine kq fun K hK=>?_)
 by_cases hek : VZ D k = k
 rotate_left
 ·have d3 : ((k : Int) == ((VZ D k : Nat) : Int)) = false := by simp only [beq_eq_false_iff_ne, ne_eq]; omega
  simp only [d3]
  obtain ⟨L, q1, q2⟩ := hkys (VZ D k) (by omega)
  have hko := q2.cp hv hD hC hlk
  obtain ⟨sb, hsb⟩ : ∃ b, J5 L = Value.string b := ⟨_, rfl⟩
  rw [hsb] at q1
  have gk : (Wo ky)[VZ D k]? = some (.v (.string sb)) := by simp [Wo, q1]
  refine V5 ?_
  (refine D1 (an @g1 (an @hcl (an @gk @J7))) ?_;(repeat clear hK K);repeat refine kq fun K hK=>?_)
  refine Bg (fun G3 => HS (Wv X D (Q.map Int.ofNat) (Ws (VZ D) X.length) dv) ⟨9, 1, true, Wo (ky.set k (.string sb))⟩ X.length G3 tc vc /\ TA X nw Q Q.length G3 tc /\ TB X nw Q Q.length G3 vc) ?_ ?_
  ·exact ⟨hH.setK _, hT.set1 _, hTB.set1 _⟩
  rintro G3 ⟨hH3, hT3, hTB3⟩
  simp only
  refine V6 ?_
  refine hK _ (k + 1, G3, ky.set k (.string sb)) ⟨by simp only; omega, by simp only; rw [List.length_set]; exact hkyl, ?_, hH3, hT3, hTB3⟩ (by simp only; omega) ?_
  rotate_left
  ·exact V7
  intro s hs
  simp only at hs ⊢
  by_cases e : s = k
  ·subst e
   exact ⟨L, by rw [hsb, gEc (by omega)], hko⟩
  obtain ⟨M, q1, q2⟩ := hkys s (by omega)
  exact ⟨M, by rw [gE5 (Ne.symm e)]; exact q1, q2⟩
 rw [hek] at gD ⊢
 have d3 : ((k : Int) == (k : Int)) = true := by simp
 simp only [d3]
 obtain ⟨j', hj', hQj⟩ := List.getElem_of_mem ((hQ.2.1 k).2 ⟨hlk, hek⟩)
 obtain ⟨x, w, tx1, tx2, tx3, tx4⟩ := hT.2.2 j' k hj' (by rw [gE1 hj', hQj])
 obtain ⟨m, V, ty1, ty2, ty3, ty4⟩ := hTB.2.2 j' k hj' (by rw [gE1 hj', hQj])
 have gW := Ai (show nw[k]? = some (nw.getD k 0) from by rw [gE2, gE1 (by omega)]; rfl)
 have hVl : V.length <= 2000 := by
  have h := CP (m := (List.range 1026).map Int.ofNat) ty4.nd (fun e he => by
   obtain ⟨p, hp, rfl⟩ := List.mem_map.1 he
   obtain ⟨_, _, _, i, hi, ho⟩ := ty4.ob p hp
   have hr3 := SN hv ((ty4.ex p.1 i hi).1 ⟨p, hp, rfl, ho⟩)
   exact List.mem_map.2 ⟨p.1.toNat, by rw [List.mem_range]; omega, by simp only [Int.ofNat_eq_natCast]; omega⟩)
  rw [List.length_map, List.length_map, List.length_range] at h
  omega
 have hkm := fun VL h1 h2 => KeyOf.mk2 (VL := VL) hv hN hn tx4 ty4 h1 h2
 generalize nw.getD k 0 = x0 at *
 refine V4 ?_
 (refine UX (an @gW (an @A2 @hNl)) ?_;(repeat clear hK K);repeat refine kq fun K hK=>?_)
 (refine Aa rfl ?_; intro K1 hK1; refine D0 (f := 43) (ids := []) (R := fun r o => (∃ VL : List (Int × Nat), Vb (VL.map fun q : Int × Nat => q.1) /\ (∀ q, q ∈ VL ↔ ∃ p ∈ V, q = (p.1, p.2.2)) /\ r = .a (.c (.v (J5 (Fh x0 w VL))))) /\ Pre G o /\ o.all C3 = true) rfl rfl (by simp only [go_sem]) (by kernel_rfl) (Rl G 5 3 4 X.length k x m w x0 tc vc V hH.h4 hH.h2 hH.h3 hT.1 hTB.1 (by omega) hlk tx1 tx3 tx4.1 ty1 ty3 ty4.nd (fun p hp => by obtain ⟨_, a2, a3, _⟩ := ty4.ob p hp; exact ⟨a2, a3⟩) hVl hH.ok) (fun r outs h => Hi h.2.2) ?_)
 rintro r G2 ⟨⟨VL, hV1, hV2, rfl⟩, hP2, hok2⟩
 have hko := hkm VL hV1 hV2
 obtain ⟨L, hL⟩ : ∃ L, Fh x0 w VL = L := ⟨_, rfl⟩
 rw [hL] at hko ⊢
 obtain ⟨sb, hsb⟩ : ∃ b, J5 L = Value.string b := ⟨_, rfl⟩
 rw [hsb]
 (simp only [go_sem]; refine hK1 _ ?_; clear hK1 K1)
 have hH2 := hH.pre hP2 hok2
 have g2 := hP2.at g1
 (refine D1 (an @g2 (an @hcl @J7)) ?_;(repeat clear hK K);repeat refine kq fun K hK=>?_)
 refine Bg (fun G3 => HS (Wv X D (Q.map Int.ofNat) (Ws (VZ D) X.length) dv) ⟨9, 1, true, Wo (ky.set k (.string sb))⟩ X.length G3 tc vc /\ TA X nw Q Q.length G3 tc /\ TB X nw Q Q.length G3 vc) ?_ ?_
 ·exact ⟨hH2.setK _, (hT.pre hP2).set1 _, (hTB.pre hP2).set1 _⟩
 rintro G3 ⟨hH3, hT3, hTB3⟩
 simp only
 refine V6 ?_
 refine hK _ (k + 1, G3, ky.set k (.string sb)) ⟨by simp only; omega, by simp only; rw [List.length_set]; exact hkyl, ?_, hH3, hT3, hTB3⟩ (by simp only; omega) ?_
 rotate_left
 ·exact V7
 intro s hs
 simp only at hs ⊢
 by_cases e : s = k
 ·subst e
  exact ⟨L, by rw [hsb, gEc (by omega)], hko⟩
 obtain ⟨M, q1, q2⟩ := hkys s (by omega)
 exact ⟨M, by rw [gE5 (Ne.symm e)]; exact q1, q2⟩
theorem WkC.uniq {R : List (List Ar)} {c d : List Int} (h1 : WkC R c) (h2 : WkC R d) : c = d := by
 obtain ⟨B, b1, b2⟩ := h1
 obtain ⟨B', b3, b4⟩ := h2
 have e := b1.uniq b3
 subst e
 exact b2.uniq b4
theorem Km {A R : List (List Ar)} (hA : AR A = true) (hv : AR R = true) (hn : A.length + R.length <= 100) (ht : AA A + AA R <= 1000) : AR (BI A R) = true := En (.inr hA) hv (by show A.length + R.length <= 16384; omega) (by show AA A + AA R <= 262144; omega)
theorem Ip {c : List Int} {i : Nat} (h : i < c.length) : (Ad c)[i]? = some (.v (.int .i64 (c.getD i 0))) := Ai (by rw [gE2, gE1 h]; rfl)
set_option maxHeartbeats 2000000 in
theorem Na (R : List (List Ar)) (hv : AR R = true) (hn : R.length <= 64) (hr : ∀ r ∈ R, r.length <= 1000000) : FC Tryd.prog 9 [CC R] [] (fun r o => ∃ c, WkC R c /\ Nrm R.length c /\ o = [] /\ r = AC c) := by
 refine Af Tryd.func9 rfl (by rw [Tryd.ntmps9]; simp) ?_
 rw [Tryd.ntmps9]
 simp only [C2, CC]
 have hlo : Bd R = true := gEg (gE4 hv).1
 have hbL : Jc [R] = R := K2 R
 (refine UW ?_;(repeat clear hK K);repeat refine kq fun K hK=>?_)
 (refine V1 (Dz R (by omega) (fun r h => by have := hr r h; omega)) ?_; intro K1 hK1)
 rintro _ _ ⟨rfl, rfl⟩
 (refine V3 ?_; clear hK1 K1)
 rw [hv]
 (refine UX @Bool.not_true ?_;(repeat clear hK K);repeat refine kq fun K hK=>?_)
 refine V5 ?_
 (refine UW ?_;(repeat clear hK K);repeat refine kq fun K hK=>?_)
 have hf : (if 1 <= (Ww [R]).length then C.t 1 ((Ww [R]).take 1) else C.u) = C.t 1 (Ww [R]) := rfl
 (refine EV (C8 (r := ⟨27, 1, true, [.t 1 (Ao R)]⟩) 1 (Ww [R]) rfl ⟨.inl rfl, trivial⟩ (show 0 < (1 : Nat) by omega)) ?_; simp only [ST.frz, A0.frz, AV.frz, C.frz, Nat.le_refl, List.set_cons_zero, List.set_cons_succ, go_sem, hf])
 have hns := MS [R] (by simp) (by simp) (by simpa using hv) (by simpa using hr) (by have := (gE4 hlo).2.1; simpa using this) (by have := (gE4 hlo).2.2.1; simpa using this)
 rw [hbL] at hns
 (refine V1 hns ?_; intro K1 hK1)
 rintro _ _ ⟨rfl, D, Q, B, _, hD, hB, hQ, rfl⟩
 simp only [Wv]
 (refine V3 ?_; clear hK1 K1)
 (refine UW ?_;(repeat clear hK K);repeat refine kq fun K hK=>?_)
 (refine Aa rfl ?_; intro K1 hK1; refine Av (ids := []) [2] (N9 R D Q B hv hn hr hD hQ hB) rfl rfl (by simp only [go_sem]) (by first | assumption | kernel_rfl) rfl rfl (by (simp only [List.map_append, List.append_nil, go_sem]) <;> rfl) (by (simp only [Um, Wv, go_sem]) <;> rfl) ?_ ?_)
 ·rintro _ _ ⟨c, _, _, rfl, rfl⟩; rfl
 rintro _ _ ⟨c, hc, hN, rfl, rfl⟩
 simp only [Wv]
 (refine V3 ?_; clear hK1 K1)
 (refine UW ?_;(repeat clear hK K);repeat refine kq fun K hK=>?_)
 ((try refine AM ?_); (try simp only [Ag, B6]); refine BG (Ae [] rfl rfl) ?_; (try simp only [List.set_nil, List.take_nil, List.take_zero, List.map_append, go_sem]); ((try refine AM ?_); (try refine A6 ?_); (try simp only [Ag, B6]); refine BP (by first | exact .inl rfl | exact .inr rfl) rfl ?_; simp only [Uo, Fy, F0, Ge, Tryd.results9, go_sem, true_and, and_true, AC]))
 exact ⟨c, hc, hN, rfl⟩
noncomputable def EqW (A R : List (List Ar)) : Bool := @decide (AR A = true /\ AR R = true /\ ∃ c, WkC (BI A R) c /\ c.getD 0 0 = c.getD A.length 0) (Classical.propDecidable _)
theorem EqW.of {A R : List (List Ar)} (hA : AR A = true) (hv : AR R = true) {c : List Int} (hc : WkC (BI A R) c) : decide (c.getD 0 0 = c.getD A.length 0) = EqW A R := by
 by_cases h : c.getD 0 0 = c.getD A.length 0
 ·rw [gEg h]
  exact (@decide_eq_true _ (Classical.propDecidable _) ⟨hA, hv, c, hc, h⟩).symm
 rw [decide_eq_false h]
 refine (@decide_eq_false _ (Classical.propDecidable _) ?_).symm
 rintro ⟨_, _, d, hd, q⟩
 obtain rfl := hc.uniq hd
 exact h q
set_option maxHeartbeats 4000000 in
theorem PV (A R : List (List Ar)) (hA : AR A = true) (hv : AR R = true) (hn : A.length + R.length <= 64) (ht : AA A + AA R <= 1000) (hrA : ∀ r ∈ A, r.length <= 1000000) (hr : ∀ r ∈ R, r.length <= 1000000) : FC Tryd.prog 8 [CC A, CC R] [] (fun r o => o = [] /\ r = .b (EqW A R)) := by
 refine Af Tryd.func8 rfl (by rw [Tryd.ntmps8]; simp) ?_
 rw [Tryd.ntmps8]
 simp only [C2, CC]
 have hlA : Bd A = true := gEg (gE4 hA).1
 have hz := Km hA hv (by omega) ht
 have hzn : (BI A R).length <= 64 := by rw [Az]; exact hn
 have hzr := QE hrA hr
 have hA1 : 1 <= A.length := (gE4 hlA).1
 have hR1 : 1 <= R.length := (gE4 (gEg (gE4 hv).1 : Bd R = true)).1
 have hbL : Jc [A, R] = BI A R := by show BI (BI [] A) R = _; rw [K2]
 (refine UW ?_;(repeat clear hK K);repeat refine kq fun K hK=>?_)
 (refine V1 (Dz A (by omega) (fun r h => by have := hrA r h; omega)) ?_; intro K1 hK1)
 rintro _ _ ⟨rfl, rfl⟩
 (refine V3 ?_; clear hK1 K1)
 rw [hA]
 (refine UX @Bool.not_true ?_;(repeat clear hK K);repeat refine kq fun K hK=>?_)
 (refine CZ rfl rfl (by simp only [go_sem] <;> rfl) ?_; intro K1 hK1; refine (AQ (ids := []) (Dz R (by omega) (fun r h => by have := hr r h; omega)) rfl rfl (by simp only [go_sem]) (by kernel_rfl) (by (simp only [List.append_nil, go_sem]) <;> rfl) ?_).stp)
 rintro _ _ ⟨rfl, rfl⟩
 (refine V3 ?_; clear hK1 K1)
 rw [hv]
 (refine UX @Bool.not_true ?_;(repeat clear hK K);repeat refine kq fun K hK=>?_)
 refine V5 ?_
 (refine UW ?_;(repeat clear hK K);repeat refine kq fun K hK=>?_)
 have hf : (if 2 <= (Ww [A, R]).length then C.t 1 ((Ww [A, R]).take 2) else C.u) = C.t 1 (Ww [A, R]) := rfl
 (refine EV (C8 (r := ⟨27, 1, true, [.t 1 (Ao A), .t 1 (Ao R)]⟩) 2 (Ww [A, R]) rfl ⟨.inl rfl, .inl rfl, trivial⟩ (show 0 < (1 : Nat) by omega)) ?_; simp only [ST.frz, A0.frz, AV.frz, C.frz, Nat.le_refl, List.set_cons_zero, List.set_cons_succ, go_sem, hf])
 have hns := MS [A, R] (by simp) (by simp) (by simp [hA, hv]) (by simp only [List.mem_cons, List.not_mem_nil, or_false, forall_eq_or_imp, forall_eq]; exact ⟨hrA, hr⟩) (by show A.length + (R.length + 0) <= 16384; omega) (by show AA A + (AA R + 0) <= 262144; omega)
 rw [hbL] at hns
 (refine V1 hns ?_; intro K1 hK1)
 rintro _ _ ⟨rfl, D, Q, B, _, hD, hB, hQ, rfl⟩
 simp only [Wv]
 (refine V3 ?_; clear hK1 K1)
 (refine UW ?_;(repeat clear hK K);repeat refine kq fun K hK=>?_)
 (refine Aa rfl ?_; intro K1 hK1; refine Av (ids := []) [3] (N9 (BI A R) D Q B hz hzn hzr hD hQ hB) rfl rfl (by simp only [go_sem]) (by first | assumption | kernel_rfl) rfl rfl (by (simp only [List.map_append, List.append_nil, go_sem]) <;> rfl) (by (simp only [Um, Wv, go_sem]) <;> rfl) ?_ ?_)
 ·rintro _ _ ⟨c, _, _, rfl, rfl⟩; rfl
 rintro _ _ ⟨c, hc, hN, rfl, rfl⟩
 have hcl : c.length = A.length + R.length := by rw [hN.len, Az]
 simp only [Wv]
 (refine V3 ?_; clear hK1 K1)
 (refine UW ?_;(repeat clear hK K);repeat refine kq fun K hK=>?_)
 (refine Ap 10 [(0, 0), (1, 0), (2, 1), (3, 0), (4, 0), (5, 1), (6, 0), (7, 0), (8, 1), (9, 0), (10, 2)] (by kernel_rfl) (by kernel_rfl) (by intro c st h; simp [Ag, B6, Un] at h) ?_)
 (refine UU (an @Int.toNat_zero (an @Ac (an @A2 (an (Ip (c := c) (i := 0) (by omega)) (Ip (c := c) (i := A.length) (by omega)))))) ?_; repeat clear hK K)
 have he : (c.getD 0 0 == c.getD A.length 0) = EqW A R := EqW.of hA hv hc
 simp only [he]
 exact Th [] Tryd.results8
theorem Nb (S : List (List Ar)) (c : List Int) : ∀ k, Vj S (Vi S c) k = Vj S c (k + 1)
 | 0 => rfl
 | k + 1 => by rw [Vj, Nb S c k]; rfl
theorem SP (S : List (List Ar)) : ∀ (m : Nat) (c : List Int), Nrm S.length c -> S.length <= EW S.length c + m -> ∃ k, Vi S (Vj S c k) = Vj S c k := by
 intro m
 induction m with
 | zero =>
  intro c hN hm
  refine ⟨0, ?_⟩
  by_cases e : Vi S c = c
  ·exact e
  have h1 := Qi hN e
  have h2 := LX S.length (Vi S c)
  omega
 | succ m ih =>
  intro c hN hm
  by_cases e : Vi S c = c
  ·exact ⟨0, e⟩
  have h1 := Qi hN e
  obtain ⟨k, hk⟩ := ih (Vi S c) (PA S c) (by omega)
  rw [Nb] at hk
  exact ⟨k + 1, hk⟩
theorem WkC.ex {R : List (List Ar)} (hv : AR R = true) (hn : R.length <= 100) : ∃ c, WkC R c := by
 have hl := (DX hv hn).1
 have h1 : 1 <= R.length := (gE4 hv).1.1
 obtain ⟨B, hB⟩ : ∃ B, DvL R B := by
  refine ⟨(List.range R.length).map fun s => @decide (Dv R s) (Classical.propDecidable _), by simp, fun s hs => ?_⟩
  rw [gE2, List.getElem?_map, List.getElem?_range hs]
  exact @decide_eq_true_iff _ (Classical.propDecidable _)
 obtain ⟨k, hk⟩ := SP (B1 R) R.length (VP B R.length) (by rw [hl]; exact IX _ h1) (by omega)
 exact ⟨_, B, hB, k, rfl, hk⟩
theorem EqW.yes {A R : List (List Ar)} (hA : AR A = true) (hv : AR R = true) (hn : A.length + R.length <= 100) (ht : AA A + AA R <= 1000) (h : ∀ d, WkC (BI A R) d -> d.getD 0 0 = d.getD A.length 0) : EqW A R = true := by
 obtain ⟨d, hd⟩ := WkC.ex (Km hA hv hn ht) (by rw [Az]; exact hn)
 exact @decide_eq_true _ (Classical.propDecidable _) ⟨hA, hv, d, hd, h d hd⟩
end Go.Proofs.YthnkailnoobdoaaDoor
