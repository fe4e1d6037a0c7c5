/- Lemmas. -/
import Derived.Test.YthnkailnoobdoaaGreatDoorZk
import Derived.Test.YthnkailnoobdoaaGreatDoorW03
import Derived.Test.YthnkailnoobdoaaGreatDoorW04
import Derived.Test.YthnkailnoobdoaaGreatDoorKyl
import Derived.Test.YthnkailnoobdoaaGreatDoorG72
import Derived.Test.YthnkailnoobdoaaGreatDoorOd1
import Derived.Test.YthnkailnoobdoaaGreatDoorW06
import Derived.Test.YthnkailnoobdoaaGreatDoorG11
import Derived.Test.YthnkailnoobdoaaGreatDoorG36
import Derived.Test.YthnkailnoobdoaaGreatDoorTl3
namespace Go.Proofs.YthnkailnoobdoaaGreatDoor
set_option linter.unusedVariables false
set_option linter.unusedSimpArgs false
open Go.RowKit
set_option maxRecDepth 100000
attribute [local go_sem] lga C.pl C.one

def CpC (X : List (List Ar)) (D c : List Int) : Prop := ∀ v, v < X.length -> c.getD (Xh D v) 0 = c.getD v 0
theorem U8 {X : List (List Ar)} {D cl : List Int} (hv : BL X = true) (h : CpOk X D) (hc : Nrm X.length cl) {v : Nat} (hs : v < X.length) : Wx (BI X) cl (Xh D v) = Wx (BI X) cl v := by
 have hcv := (BR hv h hs).2.1
 refine C5 (AP _) (AP _) fun x => ?_
 show x ∈ Wx (BI X) cl (Xh D v) ↔ x ∈ Wx (BI X) cl v
 obtain ⟨e, y⟩ := x
 have key : ∀ i : Nat, (e, (i : Int)) ∈ Wx (BI X) cl (Xh D v) ↔ (e, (i : Int)) ∈ Wx (BI X) cl v := fun i => by
  by_cases he : e = 0
  ·subst he; rw [DH hv hcv, DH hv hs, NQ hv h hs]
  rw [CZ hv hcv he, CZ hv hs he, LU hv h hs]
 constructor
 rotate_left
 ·intro hx
  obtain ⟨i, _, hy⟩ := IH hv hc hs hx
  simp only at hy
  subst hy
  exact (key i).2 hx
 intro hx
 obtain ⟨i, _, hy⟩ := IH hv hc hcv hx
 simp only at hy
 subst hy
 exact (key i).1 hx
theorem CpC.next {X : List (List Ar)} {D cl : List Int} (hv : BL X = true) (hn : X.length <= 100) (h : CpOk X D) (hc : Nrm X.length cl) (hC : CpC X D cl) : CpC X D (Wz (BI X) cl) := by
 intro v hs
 have hSl := (Gt hv hn).1
 have hcv := (BR hv h hs).2.1
 unfold Wz
 refine ((Ca (Wy (BI X) cl) (BI X).length).eq _ _ (by omega) (by omega)).2 ?_
 unfold Wy
 rw [hC v hs, U8 hv h hc hs]
theorem CpC.start {X : List (List Ar)} {D : List Int} {B : List Bool} (hv : BL X = true) (h : CpOk X D) (hB : DvL X B) : CpC X D (X7 B X.length) := by
 intro v hs
 obtain ⟨_, hcv, p3, p4, _⟩ := BR hv h hs
 rw [Gn hcv, Gn hs]
 have e : B.getD (Xh D v) false = B.getD v false := by
  rw [Bool.eq_iff_iff, hB.2 _ hcv, hB.2 _ hs]
  exact ⟨fun ⟨g, q1, q2⟩ => ⟨g, p3.trans q1, q2⟩, fun ⟨g, q1, q2⟩ => ⟨g, p4.trans q1, q2⟩⟩
 unfold X6
 rw [e]
theorem KeyOf.cp {X : List (List Ar)} {D cl L : List Int} (hv : BL X = true) (h : CpOk X D) (hC : CpC X D cl) {v : Nat} (hs : v < X.length) (hk : KeyOf X cl (Xh D v) L) : KeyOf X cl v L := by
 obtain ⟨t, V, e1, e2, e3, e4, e5⟩ := hk.ex
 refine ⟨t, V, by rw [<- hC v hs]; exact e1, e2.iff fun i _ => NQ hv h hs, e3, fun p hp => ?_, fun e i hr => e5 e i ((LU hv h hs).2 hr)⟩
 obtain ⟨a1, a2, i, a3⟩ := e4 p hp
 exact ⟨a1, a2.iff fun i _ => LU hv h hs, i, (LU hv h hs).1 a3⟩
theorem U9 {X : List (List Ar)} {cl : List Int} (hv : BL X = true) {s i : Nat} {e : Int} (h : RV X cl s e i) : 0 <= e /\ e <= 1025 := by
 obtain ⟨_, u, hu, _, a, ha, rfl, _⟩ := h
 have := Gv hv hu ha
 exact ⟨this.1, this.2.1⟩
theorem KeyOf.mk2 {X : List (List Ar)} {cl : List Int} (hv : BL X = true) (hc : Nrm X.length cl) (hn : X.length <= 64) {s w : Nat} {H : List Ob} {V : List (Int × Nat × Nat)} {VL : List (Int × Nat)} (hw : WS w (RT X cl s)) (hV : VSt H 6 V (RV X cl s)) (h1 : Ws (VL.map (·.1))) (h2 : ∀ q, q ∈ VL ↔ ∃ p ∈ V, q = (p.1, p.2.2)) : KeyOf X cl s (FL (cl.getD s 0) w VL) := by
 refine ⟨w, VL, rfl, hw, h1, fun q hq => ?_, fun e i hr => ?_⟩
 rotate_left
 ·have hi := UK hv hc hr
  obtain ⟨p, hp, rfl, _⟩ := (hV.ex e i (by omega)).2 hr
  exact List.mem_map.2 ⟨_, (h2 _).2 ⟨p, hp, rfl⟩, rfl⟩
 obtain ⟨p, hp, rfl⟩ := (h2 q).1 hq
 obtain ⟨o1, o2, o3, i, hi, ho⟩ := hV.ob p hp
 have hex := (hV.ex p.1 i hi).1 ⟨p, hp, rfl, ho⟩
 refine ⟨U9 hv hex, ⟨o3, fun i hi => ?_⟩, i, hex⟩
 rw [<- hV.ex p.1 i hi]
 constructor
 ·intro hb; exact ⟨p, hp, rfl, hb⟩
 rintro ⟨p', hp', e1, hb⟩
 rw [<- Gx hV.nd hp' hp e1]; exact hb
theorem KeyOf.nn {X : List (List Ar)} {cl L : List Int} (hc : Nrm X.length cl) (hn : X.length <= 64) {s : Nat} (hs : s < X.length) (h : KeyOf X cl s L) : UJ L := by
 obtain ⟨t, V, rfl, e2, e3, e4, e5⟩ := h.ex
 have hcl := hc.len
 have hm : cl.getD s 0 ∈ cl := by rw [gE2, gE1 (by omega)]; exact gE6 _
 have hr := hc.rng _ hm
 intro x hx
 unfold FL at hx
 simp only [List.mem_cons, List.mem_append, List.mem_flatMap] at hx
 rcases hx with rfl | rfl | hx | ⟨p, hp, rfl | rfl | hx⟩
 ·omega
 ·have := CJ t; omega
 ·have := KV x hx; omega
 ·have := (e4 p hp).1; omega
 ·have := CJ p.2; omega
 have := KV x hx; omega
theorem UO {X : List (List Ar)} {cl : List Int} {ky : List Value} (hv : BL X = true) (hn : X.length <= 64) (hc : Nrm X.length cl) (hl : ky.length = X.length) (h : ∀ s, s < X.length -> ∃ L, ky[s]? = some (Jy L) /\ KeyOf X cl s L) : T6 ky (Wy (BI X) cl) := by
 intro a b ha hb
 rw [hl] at ha hb
 obtain ⟨L, h1, h2⟩ := h a ha
 obtain ⟨M, h3, h4⟩ := h b hb
 rw [gE2, h1, gE2, h3, Option.getD_some, Option.getD_some, RZ (h2.nn hc hn ha) (h4.nn hc hn hb)]
 congr 1
 rw [decide_eq_decide]
 exact KeyOf.iff hv hn hc ha hb h2 h4
theorem HS.setK {r0 : Row} {n : Nat} {H : List Ob} {tc vc : List C} {ky : List Value} (h : HS r0 ⟨9, 1, true, XI ky⟩ n H tc vc) (ky' : List Value) : HS r0 ⟨9, 1, true, XI ky'⟩ n (H.set 1 (.r ⟨9, 1, true, XI ky'⟩)) tc vc :=
 ⟨by rw [gE5 (by omega)]; exact h.h0, gEc (Bj h.hx), by rw [gE5 (by omega)]; exact h.h1, by rw [gE5 (by omega)]; exact h.h2, by rw [gE5 (by omega)]; exact h.h3, by rw [gE5 (by omega)]; exact h.h4, C3 h.ok (y := .r ⟨9, 1, true, XI ky'⟩) (by show (XI ky').all C.pl = true; simp [XI, C.pl]) 1⟩
theorem TA.set1 {X : List (List Ar)} {cl : List Int} {Q : List Nat} {k : Nat} {H : List Ob} {tc : List C} (h : TA X cl Q k H tc) (ob : Ob) : TA X cl Q k (H.set 1 ob) tc := ⟨h.1, h.2.1, fun j c hj hc => by
 obtain ⟨y, w, a, b, d, e⟩ := h.2.2 j c hj hc
 exact ⟨y, w, a, b, by rw [gE5 (by omega)]; exact d, e⟩⟩
theorem TB.set1 {X : List (List Ar)} {cl : List Int} {Q : List Nat} {k : Nat} {H : List Ob} {vc : List C} (h : TB X cl Q k H vc) (ob : Ob) : TB X cl Q k (H.set 1 ob) vc := ⟨h.1, h.2.1, fun j c hj hc => by
 obtain ⟨m, V, a, a2, b, d⟩ := h.2.2 j c hj hc
 refine ⟨m, V, a, a2, by rw [gE5 (by omega)]; exact b, d.nd, d.nk, fun p hp => ?_, d.ex⟩
 obtain ⟨q1, q2, q3⟩ := d.ob p hp
 exact ⟨q1, by rw [gE5 (by omega)]; exact q2, q3⟩⟩
theorem Ua (ky : List Value) : (XI ky).all C.pl = true := by simp [XI, C.pl]
section
variable {o : Oper} {st : ST} {K : ST -> Prop} {α : Type} [DecidableEq α]
theorem Ha {x : Operand} {ts : Array TypeId} {a : Nat} {ky : List Value} (g : Nat -> α) (hky : T6 ky g) (hn : ky.length <= 1000000) (hd : Vu o st.n = true) (ho : o.op = .call { callee := .value (.func 46), args := #[x], argTypes := ts }) (hx : st.ev x = .a (.c (.s a ky.length))) (ha : st.hp[a]? = some (.r ⟨9, 1, true, XI ky⟩))
  (hnb : EV [a] st.tm = st.tm) (h : K ({ st with hp := st.hp ++ [Aw (Ww g ky.length).1] }.put o.dst (.tup [.c (.s st.hp.length ky.length), .c (.v (.int .i64 (Ww g ky.length).2))]))) : Stp Tryz.prog o st K := by
 have i1 : idx [a] a 0 = some 0 := by simp [idx]
 have hren : (Ob.r ⟨9, 1, true, XI ky⟩).ren [a] = .r ⟨9, 1, true, XI ky⟩ := by simp [Ob.ren, Fi]
 refine AX (ids := []) [a] (So ky g hky hn) hd ho rfl (by kernel_rfl) rfl (by simp [Bj ha]) ?_ ?_ ?_ ?_
 ·simp [hx, E3, AV.ren, A0.ren, C.ren, i1]
 ·simp only [VC, List.map_cons, List.map_nil, D0 ha, hren]
 ·rintro r outs ⟨rfl, rfl⟩; rfl
 rintro r outs ⟨rfl, rfl⟩
 have e : st.back [a] [.r ⟨9, 1, true, XI ky⟩, Aw (Ww g ky.length).1] = { st with hp := st.hp ++ [Aw (Ww g ky.length).1] } := by
  unfold ST.back
  rw [hnb]
  have e2 : (Ob.r ⟨9, 1, true, XI ky⟩).up (VF [a] st.hp.length) = .r ⟨9, 1, true, XI ky⟩ := by simp [Ob.up, U5]
  simp only [List.map_cons, List.map_nil, HN, e2, Cd]
  rw [FM ha]
 rw [e]
 have e3 : (AV.tup [.c (.s 1 ky.length), .c (.v (.int .i64 (Ww g ky.length).2))]).up (VF [a] st.hp.length) = .tup [.c (.s st.hp.length ky.length), .c (.v (.int .i64 (Ww g ky.length).2))] := by simp [AV.up, A0.up, C.up, VF]
 rw [e3]; exact h
end
set_option maxHeartbeats 8000000 in
theorem SB (X : List (List Ar)) (D : List Int) (Q : List Nat) (dv : List Bool) (hv : BL X = true) (hn : X.length <= 64) (hr : ∀ r ∈ X, r.length <= 1000000) (hD : CpOk X D) (hQ : HB (Xa (Xh D) X X.length) X.length (Xh D) Q) (hB : DvL X dv) : FC Tryz.prog 28 [.a (.c (.p 0 0))] [.r (XP X D (Q.map Int.ofNat) (XM (Xh D) X.length) dv)] (fun r o => ∃ c, WkC X c /\ Nrm X.length c /\ r = Aq c /\ o = [.r (XP X D (Q.map Int.ofNat) (XM (Xh D) X.length) dv)]) := by
 refine A9 Tryz.func28 rfl (by rw [Tryz.ntmps28]; simp) ?_
 rw [Tryz.ntmps28]
 have hlo : BK X = true := gEg (gE4 hv).1
 have h1 : 1 <= X.length := (gE4 hlo).1
 have hDl := hD.1
 have hBl := hB.1
 simp only [Bz, XP]
 (refine Wf (an @A4 (an @Bw @hBl)) ?_;(repeat clear hK K);repeat refine kq fun K hK=>?_)
 have e0 : List.replicate X.length (C.v (.string { data := #[] })) = XI (XJ XX XY dv X.length 0) := by rw [PM]; simp [XI, XY]
 rw [e0]
 refine A6 (fun k : Nat => { tm := [(0, .a (.c (.p 0 0))), (3, .a (.c (.s 1 X.length))), (23, .a (.c (.t 1 (Xl dv)))), (24, .i X.length), (25, .i k)], hp := [.r (XP X D (Q.map Int.ofNat) (XM (Xh D) X.length) dv), .r ⟨9, 1, true, XI (XJ XX XY dv X.length k)⟩], n := 86, pin := 1 }) (fun k => k <= X.length) (fun k => X.length - k) 0 ?_ ?_ ?_
 ·omega
 ·simp only [XP]
  exact Wo
 rintro k hk K hK
 simp only [XP]
 by_cases hlt : k < X.length
 ·have d1 : decide ((k : Int) < (X.length : Int)) = true := by simpa using hlt
  have gB : (Xl dv)[k]? = some (.v (.bool (dv.getD k false))) := Ff (by rw [gE2, gE1 (by omega)]; rfl)
  have hkt := PN (kd := XX) (ke := XY) (B := dv) (n := X.length) (k := k)
  have hkf := NH (kd := XX) (ke := XY) (B := dv) (n := X.length) (k := k)
  have hkl := HF XX XY dv X.length k
  generalize dv.getD k false = b at *
  (refine Wf @d1 ?_;(repeat clear hK K);repeat refine kq fun K hK=>?_)
  refine Wl ?_
  (refine Wf (an @Bw (an @hBl @gB)) ?_;(repeat clear hK K);repeat refine kq fun K hK=>?_)
  cases b with
  | true =>
   have hkt := hkt rfl
   refine Wl ?_
   have hks : (XI (XJ XX XY dv X.length k)).set k (C.v (Value.string { data := #[100, 105, 118, 101, 114, 103, 101, 110, 116] })) = XI (XJ XX XY dv X.length (k + 1)) := by rw [<- hkt]; exact JA _ _ _
   (refine Cr (an @Gu (an @hkl @hks)) ?_;(repeat clear hK K);repeat refine kq fun K hK=>?_)
   refine Wn ?_
   refine hK _ (k + 1) (by omega) (by omega) ?_
   simp only [XP]
   exact Wo
  | false =>
   have hkf := hkf rfl
   refine Wm ?_
   (refine We ?_;(repeat clear hK K);repeat refine kq fun K hK=>?_)
   refine Wn ?_
   refine hK _ (k + 1) (by omega) (by omega) ?_
   rw [hkf]
   simp only [XP]
   exact Wo
 have d1 : decide ((k : Int) < (X.length : Int)) = false := by simpa using hlt
 have hke : k = X.length := by omega
 rw [hke] at d1
 rw [hke]
 have hko := TV (kd := XX) (ke := XY) (by kernel_rfl) (by kernel_rfl) (by kernel_rfl) (by kernel_rfl) dv X.length
 have hkl := HF XX XY dv X.length X.length
 obtain ⟨hnm, _⟩ := Tz (B := dv) X.length h1
 have hN0 := Jq dv h1
 have hC0 := CpC.start hv hD hB
 have hc0 : F3 X.length (X7 dv X.length) = (Ww (fun s => dv.getD s false) X.length).2 := by rw [<- hnm, MO]
 generalize XJ XX XY dv X.length X.length = ky0 at *
 (refine Wf @d1 ?_;(repeat clear hK K);repeat refine kq fun K hK=>?_)
 refine Wm ?_
 (refine Wi ?_;repeat clear hK K)
 (refine We ?_;(repeat clear hK K);repeat refine kq fun K hK=>?_)
 (refine Ad rfl ?_; intro K1 hK1; refine Ha (a := 1) (ky := ky0) (fun s => dv.getD s false) hko (by omega) rfl rfl (by simp only [go_sem, hkl]) rfl (by simp [EV, AV.nb, A0.nb, C.nb]) ?_; simp only [go_sem]; refine hK1 _ ?_; clear hK1 K1)
 rw [hkl, hnm, <- hc0]
 clear hnm hc0
 generalize hc00 : X7 dv X.length = c0 at *
 have hN0l := hN0.len
 (refine We ?_;(repeat clear hK K);repeat refine kq fun K hK=>?_)
 simp only [Aw, List.length_cons, List.length_nil, Nat.zero_add, List.cons_append, List.nil_append]
 have hf0 : (if X.length <= (Aa c0).length then C.t 1 ((Aa c0).take X.length) else C.u) = C.t 1 (Aa c0) := by rw [if_pos (by rw [Yi]; omega), gE7 (by rw [Yi]; omega)]
 (refine Av (BA (r := ⟨3, 1, true, A7 c0⟩) 2 (Aa c0) rfl (Gd _) (show 0 < (1 : Nat) by omega)) ?_; simp only [ST.frz, A0.frz, AV.frz, C.frz, Nat.le_refl, List.set_cons_zero, List.set_cons_succ, go_sem, hf0])
 have hSl := (Gt hv (by omega)).1
 refine A6 (fun x : Nat × List Int × List Value => { tm := [(0, .a (.c (.p 0 0))), (3, .a (.c (.s 1 X.length))), (6, .a (.c (.t 1 (Aa x.2.1)))), (7, .i (F3 X.length x.2.1))], hp := [.r (XP X D (Q.map Int.ofNat) (XM (Xh D) X.length) dv), .r ⟨9, 1, true, XI x.2.2⟩], n := 86, pin := 1 }) (fun x => x.2.1 = WB (BI X) c0 x.1 /\ Nrm X.length x.2.1 /\ CpC X D x.2.1 /\ x.2.2.length = X.length) (fun x => X.length - F3 X.length x.2.1) (0, c0, ky0) ?_ ?_ ?_
 ·exact ⟨rfl, hN0, hC0, hkl⟩
 ·refine Le.trans (A8 [0, 1] rfl rfl) ?_
  (try simp only [List.set_nil, List.take_nil, List.take_zero, List.map_append, go_sem])
  (try simp only [Fi])
  simp only [XP]
  exact Wo
 clear hk hlt d1 hke hko
 rintro ⟨j, nw, ky⟩ ⟨hit, hN, hC, hkyl⟩ K hK
 simp only at hit hN hC hkyl
 simp only
 have hcn := Kf X.length nw
 have hNl := hN.len
 have hcn1 : 1 <= F3 X.length nw := by
  have := (Ca (fun s => nw.getD s 0) X.length).rng 0 (by omega)
  unfold F3; omega
 have hnn := MP (BI X) nw
 have hnl := Tt (S := BI X) (by rw [hSl]; exact hN)
 rw [hSl] at hnn hnl
 have hcn2 := Kf X.length (Wz (BI X) nw)
 have hnc : F3 X.length (Wz (BI X) nw) = (Ww (Wy (BI X) nw) X.length).2 := by
  have := MO (Wy (BI X) nw) X.length
  unfold Wz; rw [hSl]; exact this
 have hnc1 : (Ww (Wy (BI X) nw) X.length).1 = Wz (BI X) nw := by unfold Wz; rw [hSl]
 have hCn := hC.next hv (by omega) hD hN
 (refine We ?_;(repeat clear hK K);repeat refine kq fun K hK=>?_)
 (refine Ad rfl ?_; intro K1 hK1; refine Dh (f := 47) (ids := []) (R := fun r o => r = .a (.c (.p 5 0)) /\ ∃ tc vc, HS (XP X D (Q.map Int.ofNat) (XM (Xh D) X.length) dv) ⟨9, 1, true, XI ky⟩ X.length o tc vc /\ TA X nw Q Q.length o tc /\ TB X nw Q Q.length o vc) rfl rfl (by simp only [go_sem]) (by kernel_rfl) (U2 X D nw Q dv (F3 X.length nw) ⟨9, 1, true, XI ky⟩ (Ua ky) (Fi ky) hv hn hr hD hQ hN hcn1 (by omega)) (fun r outs h => HH h.2.choose_spec.choose_spec.1.ok) ?_)
 rintro r G ⟨rfl, tc, vc, hH, hT, hTB⟩
 (simp only [go_sem]; refine hK1 _ ?_; clear hK1 K1)
 have gs := hH.h0
 (refine Wf (an @gs (an @Yg (an @Yi @hDl))) ?_;(repeat clear hK K);repeat refine kq fun K hK=>?_)
 refine A6 (fun x : Nat × List Ob × List Value => { tm := [(0, .a (.c (.p 0 0))), (3, .a (.c (.s 1 X.length))), (6, .a (.c (.t 1 (Aa nw)))), (7, .i (F3 X.length nw)), (8, .a (.c (.p 5 0))), (47, .a (.c (.t 1 (Aa D)))), (48, .i X.length), (49, .i x.1)], hp := x.2.1, n := 86, pin := 1 }) (fun x => x.1 <= X.length /\ x.2.2.length = X.length /\ (∀ s, s < x.1 -> ∃ L, x.2.2[s]? = some (Jy L) /\ KeyOf X nw s L) /\ HS (XP X D (Q.map Int.ofNat) (XM (Xh D) X.length) dv) ⟨9, 1, true, XI x.2.2⟩ X.length x.2.1 tc vc /\ TA X nw Q Q.length x.2.1 tc /\ TB X nw Q Q.length x.2.1 vc) (fun x => X.length - x.1) (0, G, ky) ?_ ?_ ?_
 ·exact ⟨by simp, hkyl, fun s hs => by simp at hs, hH, hT, hTB⟩
 ·exact Wo
 clear hH hT hTB gs hkyl
 rintro ⟨k, G, ky⟩ ⟨hk, hkyl, hkys, hH, hT, hTB⟩ K hK
 simp only at hk hkyl hkys hH hT hTB
 simp only
 by_cases hlk : k < X.length
 rotate_left
 ·have d2 : decide ((k : Int) < (X.length : Int)) = false := by simpa using hlk
  have hke : k = X.length := by omega
  have hko := UO hv hn hN hkyl (fun s hs => hkys s (by omega))
  have g0 := hH.h0
  have g1 := hH.hx
  (refine Wf @d2 ?_;(repeat clear hK K);repeat refine kq fun K hK=>?_)
  refine Wm ?_
  (refine Wi ?_;repeat clear hK K)
  (refine We ?_;(repeat clear hK K);repeat refine kq fun K hK=>?_)
  (refine Ad rfl ?_; intro K1 hK1; refine Ha (a := 1) (ky := ky) (Wy (BI X) nw) hko (by omega) rfl rfl (by simp only [go_sem, hkyl]) g1 (by simp [EV, AV.nb, A0.nb, C.nb]) ?_; simp only [go_sem]; refine hK1 _ ?_; clear hK1 K1)
  rw [hkyl, hnc1, <- hnc]
  (refine We ?_;(repeat clear hK K);repeat refine kq fun K hK=>?_)
  have hG6 := Bj hH.h4
  obtain ⟨lg, hlg⟩ : ∃ l, G.length = l := ⟨_, rfl⟩
  rw [hlg] at hG6
  simp only [hlg]
  have gn := Bi G (Aw (Wz (BI X) nw))
  rw [hlg] at gn
  have g0' := (Pre.push G (Aw (Wz (BI X) nw))).at g0
  have g1' := (Pre.push G (Aw (Wz (BI X) nw))).at g1
  generalize G ++ [Aw (Wz (BI X) nw)] = G2 at *
  refine Av (BP (tm := [(0, .a (.c (.p 0 0))), (3, .a (.c (.s 1 X.length))), (6, .a (.c (.t 1 (Aa nw)))), (7, .i (F3 X.length nw)), (11, .a (.c (.s lg X.length))), (12, .i (F3 X.length (Wz (BI X) nw))), (82, .b (((F3 X.length (Wz (BI X) nw) : Nat) : Int) == ((F3 X.length nw : Nat) : Int)))]) ?_) ?_
  ·simp only [Dq, go_sem]; try simp
  have i1 : idx [0, 1, lg] 1 0 = some 1 := by simp [idx]
  have i2 : idx [0, 1, lg] lg 0 = some 2 := by
   have e1 : ¬ 0 = lg := by omega
   have e2 : ¬ 1 = lg := by omega
   simp [idx, e1, e2]
  refine Av (A8 [0, 1, lg] ?_ rfl) ?_
  ·have e1 : ¬ 0 = lg := by omega
   have e2 : ¬ 1 = lg := by omega
   simp [Ba]; omega
  have i0 : idx [0, 1, lg] 0 0 = some 0 := rfl
  have hr1 : (Ob.r (XP X D (Q.map Int.ofNat) (XM (Xh D) X.length) dv)).ren [0, 1, lg] = .r (XP X D (Q.map Int.ofNat) (XM (Xh D) X.length) dv) := by simp [Ob.ren, XP, C.ren]
  have hr2 : (Ob.r ⟨9, 1, true, XI ky⟩).ren [0, 1, lg] = .r ⟨9, 1, true, XI ky⟩ := by simp [Ob.ren, Fi]
  have hr3 := Gy (Wz (BI X) nw) [0, 1, lg]
  simp only [ST.pick, List.map_cons, List.map_nil, AV.ren, A0.ren, C.ren, AV.i, AV.b, i0, i1, i2, D0 g0', D0 g1', D0 gn, hr1, hr2, hr3]
  by_cases hceq : F3 X.length (Wz (BI X) nw) = F3 X.length nw
  ·have hfx : Wz (BI X) nw = nw := Decidable.byContradiction fun h => by have := hnl h; omega
   have d4 : (((F3 X.length (Wz (BI X) nw) : Nat) : Int) == ((F3 X.length nw : Nat) : Int)) = true := by rw [hceq]; simp
   simp only [d4]
   refine Wl ?_
   (refine We ?_;(repeat clear hK K);repeat refine kq fun K hK=>?_)
   ((try refine AF ?_); (try simp only [Ae, AJ]); refine Bm (A8 [0] rfl rfl) ?_; (try simp only [List.set_nil, List.take_nil, List.take_zero, List.map_append, go_sem]); ((try refine AF ?_); (try refine Ab ?_); (try simp only [Ae, AJ]); refine BE (by first | exact .inl rfl | exact .inr rfl) rfl ?_; simp only [VE, EO, Em, EU, Tryz.results28, go_sem, true_and, and_true, Aq, XP]))
   exact ⟨nw, ⟨dv, hB, j, by rw [hc00]; exact hit, hfx⟩, hN, rfl⟩
  have hne : Wz (BI X) nw ≠ nw := fun h => hceq (by rw [h])
  have hlt2 := hnl hne
  have d4 : (((F3 X.length (Wz (BI X) nw) : Nat) : Int) == ((F3 X.length nw : Nat) : Int)) = false := by simp only [beq_eq_false_iff_ne, ne_eq]; omega
  simp only [d4]
  refine Wm ?_
  (refine We ?_;(repeat clear hK K);repeat refine kq fun K hK=>?_)
  refine Wn ?_
  refine hK _ (j + 1, Wz (BI X) nw, ky) ⟨?_, hnn, hCn, hkyl⟩ (by simp only; omega) ?_
  ·simp only
   rw [show WB (BI X) c0 (j + 1) = Wz (BI X) (WB (BI X) c0 j) from rfl, <- hit]
  simp only
  have hw2l := hnn.len
  generalize hw2 : Wz (BI X) nw = w2 at *
  have hf0 : (if X.length <= (Aa w2).length then C.t 1 ((Aa w2).take X.length) else C.u) = C.t 1 (Aa w2) := by rw [if_pos (by rw [Yi]; omega), gE7 (by rw [Yi]; omega)]
  simp only [Aw]
  (refine Sp (BA (r := ⟨3, 1, true, A7 w2⟩) 2 (Aa w2) rfl (Gd _) (show 0 < (1 : Nat) by omega)) ?_; simp only [ST.frz, A0.frz, AV.frz, C.frz, Nat.le_refl, List.set_cons_zero, List.set_cons_succ, go_sem, hf0])
  refine Le.trans (A8 [0, 1] rfl rfl) ?_
  (try simp only [List.set_nil, List.take_nil, List.take_zero, List.map_append, go_sem])
  (try simp only [Fi])
  simp only [XP]
  exact Wo
 have d2 : decide ((k : Int) < (X.length : Int)) = true := by simpa using hlk
 obtain ⟨gD0, hfk, hr1, hr2, hff⟩ := BR hv hD hlk
 have gD := Aj gD0
 have hle : Xh D k <= k := by
  obtain ⟨m, e1, _, _, e4⟩ := hD.2 k hlk
  rw [Np gD0] at e1
  have := e4 k (.refl _) (.refl _)
  omega
 have g1 := hH.hx
 have hcl : (XI ky).length = X.length := by rw [Gu, hkyl]
 (refine Wf @d2 ?_;(repeat clear hK K);repeat refine kq fun K hK=>?_)
 refine Wl ?_
 (refine Wf (an @gD (an @Yi @hDl)) ?_;(repeat clear hK K);repeat refine kq fun K hK=>?_)
 by_cases hek : Xh D k = k
 rotate_left
 ·have d3 : ((k : Int) == ((Xh D k : Nat) : Int)) = false := by simp only [beq_eq_false_iff_ne, ne_eq]; omega
  simp only [d3]
  obtain ⟨L, q1, q2⟩ := hkys (Xh D k) (by omega)
  have hko := q2.cp hv hD hC hlk
  obtain ⟨sb, hsb⟩ : ∃ b, Jy L = Value.string b := ⟨_, rfl⟩
  rw [hsb] at q1
  have gk : (XI ky)[Xh D k]? = some (.v (.string sb)) := by simp [XI, q1]
  refine Wm ?_
  (refine Cr (an @g1 (an @hcl (an @gk @JA))) ?_;(repeat clear hK K);repeat refine kq fun K hK=>?_)
  refine Bx (fun G3 => HS (XP X D (Q.map Int.ofNat) (XM (Xh D) X.length) dv) ⟨9, 1, true, XI (ky.set k (.string sb))⟩ X.length G3 tc vc /\ TA X nw Q Q.length G3 tc /\ TB X nw Q Q.length G3 vc) ?_ ?_
  ·exact ⟨hH.setK _, hT.set1 _, hTB.set1 _⟩
  rintro G3 ⟨hH3, hT3, hTB3⟩
  simp only
  refine Wn ?_
  refine hK _ (k + 1, G3, ky.set k (.string sb)) ⟨by simp only; omega, by simp only; rw [List.length_set]; exact hkyl, ?_, hH3, hT3, hTB3⟩ (by simp only; omega) ?_
  rotate_left
  ·exact Wo
  intro s hs
  simp only at hs ⊢
  by_cases e : s = k
  ·subst e
   exact ⟨L, by rw [hsb, gEc (by omega)], hko⟩
  obtain ⟨M, q1, q2⟩ := hkys s (by omega)
  exact ⟨M, by rw [gE5 (Ne.symm e)]; exact q1, q2⟩
 rw [hek] at gD ⊢
 have d3 : ((k : Int) == (k : Int)) = true := by simp
 simp only [d3]
 obtain ⟨j', hj', hQj⟩ := List.getElem_of_mem ((hQ.2.1 k).2 ⟨hlk, hek⟩)
 obtain ⟨x, w, tx1, tx2, tx3, tx4⟩ := hT.2.2 j' k hj' (by rw [gE1 hj', hQj])
 obtain ⟨m, V, ty1, ty2, ty3, ty4⟩ := hTB.2.2 j' k hj' (by rw [gE1 hj', hQj])
 have gW := Aj (show nw[k]? = some (nw.getD k 0) from by rw [gE2, gE1 (by omega)]; rfl)
 have hVl : V.length <= 2000 := by
  have h := D8 (m := (List.range 1026).map Int.ofNat) ty4.nd (fun e he => by
   obtain ⟨p, hp, rfl⟩ := List.mem_map.1 he
   obtain ⟨_, _, _, i, hi, ho⟩ := ty4.ob p hp
   have hr3 := U9 hv ((ty4.ex p.1 i hi).1 ⟨p, hp, rfl, ho⟩)
   exact List.mem_map.2 ⟨p.1.toNat, by rw [List.mem_range]; omega, by simp only [Int.ofNat_eq_natCast]; omega⟩)
  rw [List.length_map, List.length_map, List.length_range] at h
  omega
 have hkm := fun VL h1 h2 => KeyOf.mk2 (VL := VL) hv hN hn tx4 ty4 h1 h2
 generalize nw.getD k 0 = x0 at *
 refine Wl ?_
 (refine Wf (an @gW (an @Yi @hNl)) ?_;(repeat clear hK K);repeat refine kq fun K hK=>?_)
 (refine Ad rfl ?_; intro K1 hK1; refine Dh (f := 48) (ids := []) (R := fun r o => (∃ VL : List (Int × Nat), Ws (VL.map fun q : Int × Nat => q.1) /\ (∀ q, q ∈ VL ↔ ∃ p ∈ V, q = (p.1, p.2.2)) /\ r = .a (.c (.v (Jy (FL x0 w VL))))) /\ Pre G o /\ o.all Cf = true) rfl rfl (by simp only [go_sem]) (by kernel_rfl) (Sn G 5 3 4 X.length k x m w x0 tc vc V hH.h4 hH.h2 hH.h3 hT.1 hTB.1 (by omega) hlk tx1 tx3 tx4.1 ty1 ty3 ty4.nd (fun p hp => by obtain ⟨_, a2, a3, _⟩ := ty4.ob p hp; exact ⟨a2, a3⟩) hVl hH.ok) (fun r outs h => HH h.2.2) ?_)
 rintro r G2 ⟨⟨VL, hV1, hV2, rfl⟩, hP2, hok2⟩
 have hko := hkm VL hV1 hV2
 obtain ⟨L, hL⟩ : ∃ L, FL x0 w VL = L := ⟨_, rfl⟩
 rw [hL] at hko ⊢
 obtain ⟨sb, hsb⟩ : ∃ b, Jy L = Value.string b := ⟨_, rfl⟩
 rw [hsb]
 (simp only [go_sem]; refine hK1 _ ?_; clear hK1 K1)
 have hH2 := hH.pre hP2 hok2
 have g2 := hP2.at g1
 (refine Cr (an @g2 (an @hcl @JA)) ?_;(repeat clear hK K);repeat refine kq fun K hK=>?_)
 refine Bx (fun G3 => HS (XP X D (Q.map Int.ofNat) (XM (Xh D) X.length) dv) ⟨9, 1, true, XI (ky.set k (.string sb))⟩ X.length G3 tc vc /\ TA X nw Q Q.length G3 tc /\ TB X nw Q Q.length G3 vc) ?_ ?_
 ·exact ⟨hH2.setK _, (hT.pre hP2).set1 _, (hTB.pre hP2).set1 _⟩
 rintro G3 ⟨hH3, hT3, hTB3⟩
 simp only
 refine Wn ?_
 refine hK _ (k + 1, G3, ky.set k (.string sb)) ⟨by simp only; omega, by simp only; rw [List.length_set]; exact hkyl, ?_, hH3, hT3, hTB3⟩ (by simp only; omega) ?_
 rotate_left
 ·exact Wo
 intro s hs
 simp only at hs ⊢
 by_cases e : s = k
 ·subst e
  exact ⟨L, by rw [hsb, gEc (by omega)], hko⟩
 obtain ⟨M, q1, q2⟩ := hkys s (by omega)
 exact ⟨M, by rw [gE5 (Ne.symm e)]; exact q1, q2⟩
theorem WkC.uniq {R : List (List Ar)} {c d : List Int} (h1 : WkC R c) (h2 : WkC R d) : c = d := by
 obtain ⟨B, b1, b2⟩ := h1
 obtain ⟨B', b3, b4⟩ := h2
 have e := b1.uniq b3
 subst e
 exact b2.uniq b4
theorem Yp {A R : List (List Ar)} (hA : BL A = true) (hv : BL R = true) (hn : A.length + R.length <= 100) (ht : AN A + AN R <= 1000) : BL (CL A R) = true := Nq (.inr hA) hv (by show A.length + R.length <= 16384; omega) (by show AN A + AN R <= 262144; omega)
theorem Yk {c : List Int} {i : Nat} (h : i < c.length) : (Aa c)[i]? = some (.v (.int .i64 (c.getD i 0))) := Aj (by rw [gE2, gE1 h]; rfl)
noncomputable def EqW (A R : List (List Ar)) : Bool := @decide (BL A = true /\ BL R = true /\ ∃ c, WkC (CL A R) c /\ c.getD 0 0 = c.getD A.length 0) (Classical.propDecidable _)
theorem EqW.of {A R : List (List Ar)} (hA : BL A = true) (hv : BL R = true) {c : List Int} (hc : WkC (CL A R) c) : decide (c.getD 0 0 = c.getD A.length 0) = EqW A R := by
 by_cases h : c.getD 0 0 = c.getD A.length 0
 ·rw [gEg h]
  exact (@decide_eq_true _ (Classical.propDecidable _) ⟨hA, hv, c, hc, h⟩).symm
 rw [decide_eq_false h]
 refine (@decide_eq_false _ (Classical.propDecidable _) ?_).symm
 rintro ⟨_, _, d, hd, q⟩
 obtain rfl := hc.uniq hd
 exact h q
set_option maxHeartbeats 4000000 in
theorem Yv (A R : List (List Ar)) (hA : BL A = true) (hv : BL R = true) (hn : A.length + R.length <= 64) (ht : AN A + AN R <= 1000) (hrA : ∀ r ∈ A, r.length <= 1000000) (hr : ∀ r ∈ R, r.length <= 1000000) : FC Tryz.prog 17 [Bh A, Bh R] [] (fun r o => o = [] /\ r = .b (EqW A R)) := by
 refine A9 Tryz.func17 rfl (by rw [Tryz.ntmps17]; simp) ?_
 rw [Tryz.ntmps17]
 simp only [Bz, Bh]
 have hlA : BK A = true := gEg (gE4 hA).1
 have hz := Yp hA hv (by omega) ht
 have hzn : (CL A R).length <= 64 := by rw [Ck]; exact hn
 have hzr := RE hrA hr
 have hA1 : 1 <= A.length := (gE4 hlA).1
 have hR1 : 1 <= R.length := (gE4 (gEg (gE4 hv).1 : BK R = true)).1
 have hbL : L7 [A, R] = CL A R := by show CL (CL [] A) R = _; rw [Pz]
 (refine We ?_;(repeat clear hK K);repeat refine kq fun K hK=>?_)
 (refine Wj (EE A (by omega) (fun r h => by have := hrA r h; omega)) ?_; intro K1 hK1)
 rintro _ _ ⟨rfl, rfl⟩
 (refine Wk ?_; clear hK1 K1)
 rw [hA]
 (refine Wf @Bool.not_true ?_;(repeat clear hK K);repeat refine kq fun K hK=>?_)
 (refine Cn rfl rfl (by simp only [go_sem] <;> rfl) ?_; intro K1 hK1; refine (A2 (ids := []) (EE R (by omega) (fun r h => by have := hr r h; omega)) rfl rfl (by simp only [go_sem]) (by kernel_rfl) (by (simp only [List.append_nil, go_sem]) <;> rfl) ?_).stp)
 rintro _ _ ⟨rfl, rfl⟩
 (refine Wk ?_; clear hK1 K1)
 rw [hv]
 (refine Wf @Bool.not_true ?_;(repeat clear hK K);repeat refine kq fun K hK=>?_)
 refine Wm ?_
 (refine We ?_;(repeat clear hK K);repeat refine kq fun K hK=>?_)
 have hf : (if 2 <= (XQ [A, R]).length then C.t 1 ((XQ [A, R]).take 2) else C.u) = C.t 1 (XQ [A, R]) := rfl
 (refine D4 (BA (r := ⟨25, 1, true, [.t 1 (Ai A), .t 1 (Ai R)]⟩) 2 (XQ [A, R]) rfl ⟨.inl rfl, .inl rfl, trivial⟩ (show 0 < (1 : Nat) by omega)) ?_; simp only [ST.frz, A0.frz, AV.frz, C.frz, Nat.le_refl, List.set_cons_zero, List.set_cons_succ, go_sem, hf])
 have hns := Sj [A, R] (by simp) (by simp) (by simp [hA, hv]) (by simp only [List.mem_cons, List.not_mem_nil, or_false, forall_eq_or_imp, forall_eq]; exact ⟨hrA, hr⟩) (by show A.length + (R.length + 0) <= 16384; omega) (by show AN A + (AN R + 0) <= 262144; omega)
 rw [hbL] at hns
 (refine Wj hns ?_; intro K1 hK1)
 rintro _ _ ⟨rfl, D, Q, B, _, hD, hB, hQ, rfl⟩
 simp only [XP]
 (refine Wk ?_; clear hK1 K1)
 (refine We ?_;(repeat clear hK K);repeat refine kq fun K hK=>?_)
 (refine Ad rfl ?_; intro K1 hK1; refine AX (ids := []) [3] (SB (CL A R) D Q B hz hzn hzr hD hQ hB) rfl rfl (by simp only [go_sem]) (by first | assumption | kernel_rfl) rfl rfl (by (simp only [List.map_append, List.append_nil, go_sem]) <;> rfl) (by (simp only [VC, XP, go_sem]) <;> rfl) ?_ ?_)
 ·rintro _ _ ⟨c, _, _, rfl, rfl⟩; rfl
 rintro _ _ ⟨c, hc, hN, rfl, rfl⟩
 have hcl : c.length = A.length + R.length := by rw [hN.len, Ck]
 simp only [XP]
 (refine Wk ?_; clear hK1 K1)
 (refine We ?_;(repeat clear hK K);repeat refine kq fun K hK=>?_)
 (refine Ao 10 [(0, 0), (1, 0), (2, 1), (3, 0), (4, 0), (5, 1), (6, 0), (7, 0), (8, 1), (9, 0), (10, 2)] (by kernel_rfl) (by kernel_rfl) (by intro c st h; simp [Ae, AJ, VD] at h) ?_)
 (refine Wb (an @Int.toNat_zero (an @A4 (an @Yi (an (Yk (c := c) (i := 0) (by omega)) (Yk (c := c) (i := A.length) (by omega)))))) ?_; repeat clear hK K)
 have he : (c.getD 0 0 == c.getD A.length 0) = EqW A R := EqW.of hA hv hc
 simp only [he]
 exact T2 [] Tryz.results17
theorem YM (S : List (List Ar)) (c : List Int) : ∀ k, WB S (Wz S c) k = WB S c (k + 1)
 | 0 => rfl
 | k + 1 => by rw [WB, YM S c k]; rfl
theorem Zm (S : List (List Ar)) : ∀ (m : Nat) (c : List Int), Nrm S.length c -> S.length <= F3 S.length c + m -> ∃ k, Wz S (WB S c k) = WB S c k := by
 intro m
 induction m with
 | zero =>
  intro c hN hm
  refine ⟨0, ?_⟩
  by_cases e : Wz S c = c
  ·exact e
  have h1 := Tt hN e
  have h2 := Kf S.length (Wz S c)
  omega
 | succ m ih =>
  intro c hN hm
  by_cases e : Wz S c = c
  ·exact ⟨0, e⟩
  have h1 := Tt hN e
  obtain ⟨k, hk⟩ := ih (Wz S c) (MP S c) (by omega)
  rw [YM] at hk
  exact ⟨k + 1, hk⟩
theorem WkC.ex {R : List (List Ar)} (hv : BL R = true) (hn : R.length <= 100) : ∃ c, WkC R c := by
 have hl := (Gt hv hn).1
 have h1 : 1 <= R.length := (gE4 hv).1.1
 obtain ⟨B, hB⟩ : ∃ B, DvL R B := by
  refine ⟨(List.range R.length).map fun s => @decide (Dv R s) (Classical.propDecidable _), by simp, fun s hs => ?_⟩
  rw [gE2, List.getElem?_map, List.getElem?_range hs]
  exact @decide_eq_true_iff _ (Classical.propDecidable _)
 obtain ⟨k, hk⟩ := Zm (BI R) R.length (X7 B R.length) (by rw [hl]; exact Jq _ h1) (by omega)
 exact ⟨_, B, hB, k, rfl, hk⟩
theorem EqW.yes {A R : List (List Ar)} (hA : BL A = true) (hv : BL R = true) (hn : A.length + R.length <= 100) (ht : AN A + AN R <= 1000) (h : ∀ d, WkC (CL A R) d -> d.getD 0 0 = d.getD A.length 0) : EqW A R = true := by
 obtain ⟨d, hd⟩ := WkC.ex (Yp hA hv hn ht) (by rw [Ck]; exact hn)
 exact @decide_eq_true _ (Classical.propDecidable _) ⟨hA, hv, d, hd, h d hd⟩
def ZK : List (List Ar) := [[(2, 1), (2, 2)], [(0, 2), (3, 3)], [(4, 3)], []]
def ZL : List (List Ar) := [[(2, 1)], [(0, 2), (3, 3)], [(4, 3)], []]
def ZM : List (List Ar) := [[(2, 1), (2, 2)], [(0, 2), (3, 3)], [(4, 3)], [], [(2, 5)], [(0, 6), (3, 7)], [(4, 7)], []]
theorem Z4 : CL ZK ZL = ZM := by kernel_rfl
theorem YA : BL ZK = true := by kernel_rfl
theorem YB : BL ZL = true := by kernel_rfl
theorem Qk : BL ZM = true := by kernel_rfl
def ZN (s : Nat) : List Nat := [[0], [1, 2], [2], [3], [4], [5, 6], [6], [7]].getD s []
def ZO (s : Nat) : List Nat := [[], [2], [], [], [], [6], [], []].getD s []
theorem YN : ∀ s, WG true ZM s = ZO s
 | 0 => rfl
 | 1 => rfl
 | 2 => rfl
 | 3 => rfl
 | 4 => rfl
 | 5 => rfl
 | 6 => rfl
 | 7 => rfl
 | n + 8 => rfl
theorem Zq : ∀ s, s < 8 -> s ∈ ZN s := by decide
theorem Zr : ∀ s, s < 8 -> ∀ u ∈ ZN s, ∀ w ∈ ZO u, w ∈ ZN s := by decide
theorem YD : ∀ s, s < 8 -> ∀ u ∈ ZN s, u < 8 /\ (u = s \/ u ∈ ZO s) := by decide
theorem Zs : ∀ s, s < 8 -> ∀ w ∈ ZO s, w < 8 /\ s ∉ ZN w := by decide
theorem R1 {s u : Nat} (hs : s < 8) : Rc (WG true ZM) s u ↔ u ∈ ZN s := by
 constructor
 rotate_left
 ·intro h
  rcases (YD s hs u h).2 with rfl | h2
  ·exact .refl _
  exact .one (by rw [YN]; exact h2)
 intro h
 induction h with
 | refl => exact Zq s hs
 | tail _ h2 ih => rw [YN] at h2; exact Zr s hs _ ih _ h2
theorem Zt {s : Nat} (hs : s < 8) : ¬ Dv ZM s := by
 rintro ⟨g, hg, w, hw, hr⟩
 have hg8 := (YD s hs g ((R1 hs).1 hg)).1
 rw [YN] at hw
 obtain ⟨h1, h2⟩ := Zs g hg8 w hw
 exact h2 ((R1 h1).1 hr)
theorem Zu : ∀ s, s < 8 -> ∀ t, t < 8 -> s % 4 = t % 4 -> ∀ u ∈ ZN s, ∃ v ∈ ZN t, v % 4 = u % 4 := by decide
def Zz : Bool := (List.range 8).all fun s => (List.range 8).all fun t => s % 4 != t % 4 || (ZN s).all fun p => (ZM.getD p []).all fun b => b.1 == 0 || (ZN b.2.toNat).all fun u => (ZN t).any fun q => (ZM.getD q []).any fun d => d.1 == b.1 && (ZN d.2.toNat).any fun v => v % 4 == u % 4
theorem Zv {s t p u : Nat} {b : Ar} (hs : s < 8) (ht : t < 8) (e : s % 4 = t % 4) (hp : p ∈ ZN s) (hb : b ∈ ZM.getD p []) (h0 : b.1 ≠ 0) (hu : u ∈ ZN b.2.toNat) : ∃ q ∈ ZN t, ∃ d ∈ ZM.getD q [], d.1 = b.1 /\ ∃ v ∈ ZN d.2.toNat, v % 4 = u % 4 := by
 have h : Zz = true := by kernel_rfl
 have h1 := List.all_eq_true.1 (List.all_eq_true.1 h s (List.mem_range.2 hs)) t (List.mem_range.2 ht)
 have h2 : (s % 4 != t % 4) = false := by simp [e]
 rw [h2, Bool.false_or] at h1
 have h3 := List.all_eq_true.1 (List.all_eq_true.1 h1 p hp) b hb
 have h4 : (b.1 == 0) = false := by simpa using h0
 rw [h4, Bool.false_or] at h3
 obtain ⟨q, hq, h5⟩ := List.any_eq_true.1 (List.all_eq_true.1 h3 u hu)
 obtain ⟨d, hd, h6⟩ := List.any_eq_true.1 h5
 rw [Bool.and_eq_true, beq_iff_eq] at h6
 obtain ⟨v, hv, h7⟩ := List.any_eq_true.1 h6.2
 exact ⟨q, hq, d, hd, h6.1, v, hv, beq_iff_eq.1 h7⟩
theorem Zn : ∀ s, s < 8 -> ∀ b ∈ ZM.getD s [], b.2.toNat < 8 := by decide
theorem Zw : MtW ZM (· % 4) ZM (· % 4) := by
 intro s t hs ht e
 have hs : s < 8 := hs
 have ht : t < 8 := ht
 refine ⟨fun d => absurd d (Zt hs), fun a ha => ?_⟩
 obtain ⟨u, hu, hw, ha2⟩ := (EN Qk hs).1 ha
 have hu : u < 8 := hu
 rcases hw with ⟨h0, hr⟩ | ⟨h0, p, hp, b, hb, h1, h2⟩
 ·obtain ⟨v, hv, hk⟩ := Zu s hs t ht e u ((R1 hs).1 hr)
  exact ⟨(0, (v : Int)), (EN Qk ht).2 ⟨v, (YD t ht v hv).1, .inl ⟨rfl, (R1 ht).2 hv⟩, rfl⟩, h0.symm, by rw [ha2]; exact hk⟩
 have hp8 := (YD s hs p ((R1 hs).1 hp)).1
 have hb8 := Zn p hp8 b hb
 obtain ⟨q, hq, d, hd, hde, v, hv, hk⟩ := Zv hs ht e ((R1 hs).1 hp) hb (by rw [h1]; exact h0) ((R1 hb8).1 h2)
 have hq8 := (YD t ht q hq).1
 have hd8 := Zn q hq8 d hd
 exact ⟨(a.1, (v : Int)), (EN Qk ht).2 ⟨v, (YD _ hd8 v hv).1, .inr ⟨h0, q, (R1 ht).2 hq, d, hd, by rw [hde, h1], (R1 hd8).2 hv⟩, rfl⟩, rfl, by rw [ha2]; exact hk⟩
theorem Zo : EqW ZK ZL = true := EqW.yes YA YB (by decide) (by decide) fun d hd => by
 rw [Z4] at hd
 exact Zw.le Qk (by decide) hd (by decide) (by decide) rfl
theorem Zx : EqD ZK ZL = false := by
 refine @decide_eq_false _ (Classical.propDecidable _) ?_
 rintro ⟨_, _, c, hc, h⟩
 rw [Z4] at hc
 have hk := DlC.key Qk (by decide) hc
 obtain ⟨b, hb, e1, e2⟩ := (hk 0 4 (by decide) (by decide) h).2 (2, 2) ((Hz Qk (by decide)).2 (.inr ⟨by decide, 0, .refl _, by decide⟩))
 have hb2 : b.2 = 5 := by
  rcases (Hz Qk (by decide)).1 hb with ⟨h0, _⟩ | ⟨h0, t, hr, ht⟩
  ·rw [h0] at e1; simp at e1
  have h4 : t ∈ [4] := (R1 (by decide)).1 hr
  simp only [List.mem_singleton] at h4
  subst h4
  have h5 : b ∈ [((2 : Int), (5 : Int))] := ht
  simp only [List.mem_singleton] at h5
  rw [h5]
 rw [hb2] at e2
 obtain ⟨d, hd, f1, -⟩ := (hk 5 2 (by decide) (by decide) e2).2 (3, 7) ((Hz Qk (by decide)).2 (.inr ⟨by decide, 5, .refl _, by decide⟩))
 rcases (Hz Qk (by decide)).1 hd with ⟨h0, _⟩ | ⟨h0, t, hr, ht⟩
 ·rw [h0] at f1; simp at f1
 have h4 : t ∈ [2] := (R1 (by decide)).1 hr
 simp only [List.mem_singleton] at h4
 subst h4
 have h5 : d ∈ [((4 : Int), (3 : Int))] := ht
 simp only [List.mem_singleton] at h5
 rw [h5] at f1
 simp at f1
def sK : List (List Ar) := [[(0, 1)], [(2, 2)], []]
def sQ : List (List Ar) := [[(2, 1)], []]
theorem DK : BL sK = true := by kernel_rfl
theorem QR : ∀ v w, w ∈ WG true sK v -> v = 0 /\ w = 1
 | 0, w, h => by have e : WG true sK 0 = [1] := rfl; rw [e] at h; simp at h; omega
 | 1, w, h => by have e : WG true sK 1 = [] := rfl; rw [e] at h; simp at h
 | 2, w, h => by have e : WG true sK 2 = [] := rfl; rw [e] at h; simp at h
 | n + 3, w, h => by have e : WG true sK (n + 3) = [] := rfl; rw [e] at h; simp at h
theorem Qc {v u : Nat} (h : Rc (WG true sK) v u) : u = v \/ (v = 0 /\ u = 1) := by
 induction h with
 | refl => exact .inl rfl
 | tail _ h2 ih => have := QR _ _ h2; omega
theorem UQ (s : Nat) : ¬ Dv sK s := by
 rintro ⟨g, _, w, hw, hr⟩
 have := QR _ _ hw
 have := Qc hr
 omega
theorem V0 : DvL sK [false, false, false] := by
 refine ⟨rfl, fun s hs => ⟨fun h => ?_, fun h => absurd h (UQ s)⟩⟩
 match s, hs with
 | 0, _ => simp at h
 | 1, _ => simp at h
 | 2, _ => simp at h
theorem Ve : (CH (qR sK [0, 0, 1] [false, false, false])).1 = sQ := by kernel_rfl
end Go.Proofs.YthnkailnoobdoaaGreatDoor
