/- Lemmas. -/
import Derived.Test.YtjijjfkalheokaaDoorZk
import Derived.Test.YtjijjfkalheokaaDoorW03
import Derived.Test.YtjijjfkalheokaaDoorW04
import Derived.Test.YtjijjfkalheokaaDoorG72
import Derived.Test.YtjijjfkalheokaaDoorDl1
import Derived.Test.YtjijjfkalheokaaDoorMno
import Derived.Test.YtjijjfkalheokaaDoorG11
import Derived.Test.YtjijjfkalheokaaDoorG70
namespace Go.Proofs.YtjijjfkalheokaaDoor
set_option linter.unusedVariables false
set_option linter.unusedSimpArgs false
open Go.RowKit
set_option maxRecDepth 100000
attribute [local go_sem] lga C.pl C.one

def CpC (X : List (List Ar)) (D c : List Int) : Prop := ∀ v, v < X.length -> c.getD (Vm D v) 0 = c.getD v 0
theorem RN {X : List (List Ar)} {D cl : List Int} (hv : Bg X = true) (h : CpOk X D) (hc : Nrm X.length cl) {v : Nat} (hs : v < X.length) : UX (BE X) cl (Vm D v) = UX (BE X) cl v := by
 have hcv := (Bi hv h hs).2.1
 refine BN (AD _) (AD _) fun x => ?_
 show x ∈ UX (BE X) cl (Vm D v) ↔ x ∈ UX (BE X) cl v
 obtain ⟨e, y⟩ := x
 have key : ∀ i : Nat, (e, (i : Int)) ∈ UX (BE X) cl (Vm D v) ↔ (e, (i : Int)) ∈ UX (BE X) cl v := fun i => by
  by_cases he : e = 0
  ·subst he; rw [Ef hv hcv, Ef hv hs, Mk hv h hs]
  rw [Eg hv hcv he, Eg hv hs he, Kw hv h hs]
 constructor
 rotate_left
 ·intro hx
  obtain ⟨i, _, hy⟩ := Mf hv hc hs hx
  simp only at hy
  subst hy
  exact (key i).2 hx
 intro hx
 obtain ⟨i, _, hy⟩ := Mf hv hc hcv hx
 simp only at hy
 subst hy
 exact (key i).1 hx
theorem CpC.next {X : List (List Ar)} {D cl : List Int} (hv : Bg X = true) (hn : X.length <= 100) (h : CpOk X D) (hc : Nrm X.length cl) (hC : CpC X D cl) : CpC X D (UZ (BE X) cl) := by
 intro v hs
 have hSl := (GA hv hn).1
 have hcv := (Bi hv h hs).2.1
 unfold UZ
 refine ((Ch (UY (BE X) cl) (BE X).length).eq _ _ (by omega) (by omega)).2 ?_
 unfold UY
 rw [hC v hs, RN hv h hc hs]
theorem CpC.start {X : List (List Ar)} {D : List Int} {B : List Bool} (hv : Bg X = true) (h : CpOk X D) (hB : DvL X B) : CpC X D (Vb B X.length) := by
 intro v hs
 obtain ⟨_, hcv, p3, p4, _⟩ := Bi hv h hs
 rw [Du hcv, Du hs]
 have e : B.getD (Vm D v) false = B.getD v false := by
  rw [Bool.eq_iff_iff, hB.2 _ hcv, hB.2 _ hs]
  exact ⟨fun ⟨g, q1, q2⟩ => ⟨g, p3.trans q1, q2⟩, fun ⟨g, q1, q2⟩ => ⟨g, p4.trans q1, q2⟩⟩
 unfold Va
 rw [e]
theorem KeyOf.cp {X : List (List Ar)} {D cl L : List Int} (hv : Bg X = true) (h : CpOk X D) (hC : CpC X D cl) {v : Nat} (hs : v < X.length) (hk : KeyOf X cl (Vm D v) L) : KeyOf X cl v L := by
 obtain ⟨t, V, e1, e2, e3, e4, e5⟩ := hk.ex
 refine ⟨t, V, by rw [<- hC v hs]; exact e1, e2.iff fun i _ => Mk hv h hs, e3, fun p hp => ?_, fun e i hr => e5 e i ((Kw hv h hs).2 hr)⟩
 obtain ⟨a1, a2, i, a3⟩ := e4 p hp
 exact ⟨a1, a2.iff fun i _ => Kw hv h hs, i, (Kw hv h hs).1 a3⟩
theorem RO {X : List (List Ar)} {cl : List Int} (hv : Bg X = true) {s i : Nat} {e : Int} (h : RV X cl s e i) : 0 <= e /\ e <= 1025 := by
 obtain ⟨_, u, hu, _, a, ha, rfl, _⟩ := h
 have := Em hv hu ha
 exact ⟨this.1, this.2.1⟩
theorem KeyOf.mk2 {X : List (List Ar)} {cl : List Int} (hv : Bg X = true) (hc : Nrm X.length cl) (hn : X.length <= 64) {s w : Nat} {H : List Ob} {V : List (Int × Nat × Nat)} {VL : List (Int × Nat)} (hw : WS w (RT X cl s)) (hV : VSt H 6 V (RV X cl s)) (h1 : Ur (VL.map (·.1))) (h2 : ∀ q, q ∈ VL ↔ ∃ p ∈ V, q = (p.1, p.2.2)) : KeyOf X cl s (EG (cl.getD s 0) w VL) := by
 refine ⟨w, VL, rfl, hw, h1, fun q hq => ?_, fun e i hr => ?_⟩
 rotate_left
 ·have hi := Sv hv hc hr
  obtain ⟨p, hp, rfl, _⟩ := (hV.ex e i (by omega)).2 hr
  exact List.mem_map.2 ⟨_, (h2 _).2 ⟨p, hp, rfl⟩, rfl⟩
 obtain ⟨p, hp, rfl⟩ := (h2 q).1 hq
 obtain ⟨o1, o2, o3, i, hi, ho⟩ := hV.ob p hp
 have hex := (hV.ex p.1 i hi).1 ⟨p, hp, rfl, ho⟩
 refine ⟨RO hv hex, ⟨o3, fun i hi => ?_⟩, i, hex⟩
 rw [<- hV.ex p.1 i hi]
 constructor
 ·intro hb; exact ⟨p, hp, rfl, hb⟩
 rintro ⟨p', hp', e1, hb⟩
 rw [<- Fi hV.nd hp' hp e1]; exact hb
theorem KeyOf.nn {X : List (List Ar)} {cl L : List Int} (hc : Nrm X.length cl) (hn : X.length <= 64) {s : Nat} (hs : s < X.length) (h : KeyOf X cl s L) : Su L := by
 obtain ⟨t, V, rfl, e2, e3, e4, e5⟩ := h.ex
 have hcl := hc.len
 have hm : cl.getD s 0 ∈ cl := by rw [gE2, gE1 (by omega)]; exact gE6 _
 have hr := hc.rng _ hm
 intro x hx
 unfold EG at hx
 simp only [List.mem_cons, List.mem_append, List.mem_flatMap] at hx
 rcases hx with rfl | rfl | hx | ⟨p, hp, rfl | rfl | hx⟩
 ·omega
 ·have := Cb t; omega
 ·have := JE x hx; omega
 ·have := (e4 p hp).1; omega
 ·have := Cb p.2; omega
 have := JE x hx; omega
theorem Sy {X : List (List Ar)} {cl : List Int} {ky : List Value} (hv : Bg X = true) (hn : X.length <= 64) (hc : Nrm X.length cl) (hl : ky.length = X.length) (h : ∀ s, s < X.length -> ∃ L, ky[s]? = some (Is L) /\ KeyOf X cl s L) : QS ky (UY (BE X) cl) := by
 intro a b ha hb
 rw [hl] at ha hb
 obtain ⟨L, h1, h2⟩ := h a ha
 obtain ⟨M, h3, h4⟩ := h b hb
 rw [gE2, h1, gE2, h3, Option.getD_some, Option.getD_some, Qa (h2.nn hc hn ha) (h4.nn hc hn hb)]
 congr 1
 rw [decide_eq_decide]
 exact KeyOf.iff hv hn hc ha hb h2 h4
theorem HS.setK {r0 : Row} {n : Nat} {H : List Ob} {tc vc : List C} {ky : List Value} (h : HS r0 ⟨9, 1, true, VH ky⟩ n H tc vc) (ky' : List Value) : HS r0 ⟨9, 1, true, VH ky'⟩ n (H.set 1 (.r ⟨9, 1, true, VH ky'⟩)) tc vc :=
 ⟨by rw [gE5 (by omega)]; exact h.h0, gEc (B2 h.hx), by rw [gE5 (by omega)]; exact h.h1, by rw [gE5 (by omega)]; exact h.h2, by rw [gE5 (by omega)]; exact h.h3, by rw [gE5 (by omega)]; exact h.h4, BC h.ok (y := .r ⟨9, 1, true, VH ky'⟩) (by show (VH ky').all C.pl = true; simp [VH, C.pl]) 1⟩
theorem TA.set1 {X : List (List Ar)} {cl : List Int} {Q : List Nat} {k : Nat} {H : List Ob} {tc : List C} (h : TA X cl Q k H tc) (ob : Ob) : TA X cl Q k (H.set 1 ob) tc := ⟨h.1, h.2.1, fun j c hj hc => by
 obtain ⟨y, w, a, b, d, e⟩ := h.2.2 j c hj hc
 exact ⟨y, w, a, b, by rw [gE5 (by omega)]; exact d, e⟩⟩
theorem TB.set1 {X : List (List Ar)} {cl : List Int} {Q : List Nat} {k : Nat} {H : List Ob} {vc : List C} (h : TB X cl Q k H vc) (ob : Ob) : TB X cl Q k (H.set 1 ob) vc := ⟨h.1, h.2.1, fun j c hj hc => by
 obtain ⟨m, V, a, a2, b, d⟩ := h.2.2 j c hj hc
 refine ⟨m, V, a, a2, by rw [gE5 (by omega)]; exact b, d.nd, d.nk, fun p hp => ?_, d.ex⟩
 obtain ⟨q1, q2, q3⟩ := d.ob p hp
 exact ⟨q1, by rw [gE5 (by omega)]; exact q2, q3⟩⟩
theorem RP (ky : List Value) : (VH ky).all C.pl = true := by simp [VH, C.pl]
section
variable {o : Oper} {st : ST} {K : ST -> Prop} {α : Type} [DecidableEq α]
theorem FY {x : Operand} {ts : Array TypeId} {a : Nat} {ky : List Value} (g : Nat -> α) (hky : QS ky g) (hn : ky.length <= 1000000) (hd : Tn o st.n = true) (ho : o.op = .call { callee := .value (.func 57), args := #[x], argTypes := ts }) (hx : st.ev x = .a (.c (.s a ky.length))) (ha : st.hp[a]? = some (.r ⟨9, 1, true, VH ky⟩))
  (hnb : Ej [a] st.tm = st.tm) (h : K ({ st with hp := st.hp ++ [Am (UW g ky.length).1] }.put o.dst (.tup [.c (.s st.hp.length ky.length), .c (.v (.int .i64 (UW g ky.length).2))]))) : Stp Tryd.prog o st K := by
 have i1 : idx [a] a 0 = some 0 := by simp [idx]
 have hren : (Ob.r ⟨9, 1, true, VH ky⟩).ren [a] = .r ⟨9, 1, true, VH ky⟩ := by simp [Ob.ren, Ee]
 refine As (ids := []) [a] (Qw ky g hky hn) hd ho rfl (by kernel_rfl) rfl (by simp [B2 ha]) ?_ ?_ ?_ ?_
 ·simp [hx, Er, AV.ren, A0.ren, C.ren, i1]
 ·simp only [Tx, List.map_cons, List.map_nil, Cl ha, hren]
 ·rintro r outs ⟨rfl, rfl⟩; rfl
 rintro r outs ⟨rfl, rfl⟩
 have e : st.back [a] [.r ⟨9, 1, true, VH ky⟩, Am (UW g ky.length).1] = { st with hp := st.hp ++ [Am (UW g ky.length).1] } := by
  unfold ST.back
  rw [hnb]
  have e2 : (Ob.r ⟨9, 1, true, VH ky⟩).up (TD [a] st.hp.length) = .r ⟨9, 1, true, VH ky⟩ := by simp [Ob.up, RM]
  simp only [List.map_cons, List.map_nil, GL, e2, BJ]
  rw [EH ha]
 rw [e]
 have e3 : (AV.tup [.c (.s 1 ky.length), .c (.v (.int .i64 (UW g ky.length).2))]).up (TD [a] st.hp.length) = .tup [.c (.s st.hp.length ky.length), .c (.v (.int .i64 (UW g ky.length).2))] := by simp [AV.up, A0.up, C.up, TD]
 rw [e3]; exact h
end
set_option maxHeartbeats 8000000 in
theorem Qy (X : List (List Ar)) (D : List Int) (Q : List Nat) (dv : List Bool) (hv : Bg X = true) (hn : X.length <= 64) (hr : ∀ r ∈ X, r.length <= 1000000) (hD : CpOk X D) (hQ : Gy (Vf (Vm D) X X.length) X.length (Vm D) Q) (hB : DvL X dv) : FC Tryd.prog 34 [.a (.c (.p 0 0))] [.r (VQ X D (Q.map Int.ofNat) (VN (Vm D) X.length) dv)] (fun r o => ∃ c, VJ X c /\ Nrm X.length c /\ r = AK c /\ o = [.r (VQ X D (Q.map Int.ofNat) (VN (Vm D) X.length) dv)]) := by
 refine A8 Tryd.func34 rfl (by rw [Tryd.ntmps34]; simp) ?_
 rw [Tryd.ntmps34]
 have hlo : Br X = true := gEg (gE4 hv).1
 have h1 : 1 <= X.length := (gE4 hlo).1
 have hDl := hD.1
 have hBl := hB.1
 simp only [Bs, VQ]
 (refine Ue (an @A6 (an @BT @hBl)) ?_;(repeat clear hK K);repeat refine kq fun K hK=>?_)
 have e0 : List.replicate X.length (C.v (.string { data := #[] })) = VH (VI VY VZ dv X.length 0) := by rw [O3]; simp [VH, VZ]
 rw [e0]
 refine Ac (fun k : Nat => { tm := [(0, .a (.c (.p 0 0))), (3, .a (.c (.s 1 X.length))), (23, .a (.c (.t 1 (UN dv)))), (24, .i X.length), (25, .i k)], hp := [.r (VQ X D (Q.map Int.ofNat) (VN (Vm D) X.length) dv), .r ⟨9, 1, true, VH (VI VY VZ dv X.length k)⟩], n := 86, pin := 1 }) (fun k => k <= X.length) (fun k => X.length - k) 0 ?_ ?_ ?_
 ·omega
 ·simp only [VQ]
  exact Un
 rintro k hk K hK
 simp only [VQ]
 by_cases hlt : k < X.length
 ·have d1 : decide ((k : Int) < (X.length : Int)) = true := by simpa using hlt
  have gB : (UN dv)[k]? = some (.v (.bool (dv.getD k false))) := Ih (by rw [gE2, gE1 (by omega)]; rfl)
  have hkt := O4 (kd := VY) (ke := VZ) (B := dv) (n := X.length) (k := k)
  have hkf := Mb (kd := VY) (ke := VZ) (B := dv) (n := X.length) (k := k)
  have hkl := GD VY VZ dv X.length k
  generalize dv.getD k false = b at *
  (refine Ue @d1 ?_;(repeat clear hK K);repeat refine kq fun K hK=>?_)
  refine Uk ?_
  (refine Ue (an @BT (an @hBl @gB)) ?_;(repeat clear hK K);repeat refine kq fun K hK=>?_)
  cases b with
  | true =>
   have hkt := hkt rfl
   refine Uk ?_
   have hks : (VH (VI VY VZ dv X.length k)).set k (C.v (Value.string { data := #[100, 105, 118, 101, 114, 103, 101, 110, 116] })) = VH (VI VY VZ dv X.length (k + 1)) := by rw [<- hkt]; exact Iu _ _ _
   (refine CY (an @Fg (an @hkl @hks)) ?_;(repeat clear hK K);repeat refine kq fun K hK=>?_)
   refine Um ?_
   refine hK _ (k + 1) (by omega) (by omega) ?_
   simp only [VQ]
   exact Un
  | false =>
   have hkf := hkf rfl
   refine Ul ?_
   (refine Ud ?_;(repeat clear hK K);repeat refine kq fun K hK=>?_)
   refine Um ?_
   refine hK _ (k + 1) (by omega) (by omega) ?_
   rw [hkf]
   simp only [VQ]
   exact Un
 have d1 : decide ((k : Int) < (X.length : Int)) = false := by simpa using hlt
 have hke : k = X.length := by omega
 rw [hke] at d1
 rw [hke]
 have hko := RC (kd := VY) (ke := VZ) (by kernel_rfl) (by kernel_rfl) (by kernel_rfl) (by kernel_rfl) dv X.length
 have hkl := GD VY VZ dv X.length X.length
 obtain ⟨hnm, _⟩ := Rp (B := dv) X.length h1
 have hN0 := PX dv h1
 have hC0 := CpC.start hv hD hB
 have hc0 : Ew X.length (Vb dv X.length) = (UW (fun s => dv.getD s false) X.length).2 := by rw [<- hnm, LW]
 generalize VI VY VZ dv X.length X.length = ky0 at *
 (refine Ue @d1 ?_;(repeat clear hK K);repeat refine kq fun K hK=>?_)
 refine Ul ?_
 (refine Uh ?_;repeat clear hK K)
 (refine Ud ?_;(repeat clear hK K);repeat refine kq fun K hK=>?_)
 (refine A9 rfl ?_; intro K1 hK1; refine FY (a := 1) (ky := ky0) (fun s => dv.getD s false) hko (by omega) rfl rfl (by simp only [go_sem, hkl]) rfl (by simp [Ej, AV.nb, A0.nb, C.nb]) ?_; simp only [go_sem]; refine hK1 _ ?_; clear hK1 K1)
 rw [hkl, hnm, <- hc0]
 clear hnm hc0
 generalize hc00 : Vb dv X.length = c0 at *
 have hN0l := hN0.len
 (refine Ud ?_;(repeat clear hK K);repeat refine kq fun K hK=>?_)
 simp only [Am, List.length_cons, List.length_nil, Nat.zero_add, List.cons_append, List.nil_append]
 have hf0 : (if X.length <= (Af c0).length then C.t 1 ((Af c0).take X.length) else C.u) = C.t 1 (Af c0) := by rw [if_pos (by rw [A3]; omega), gE7 (by rw [A3]; omega)]
 (refine B1 (Bh (r := ⟨3, 1, true, A5 c0⟩) 2 (Af c0) rfl (I9 _) (show 0 < (1 : Nat) by omega)) ?_; simp only [ST.frz, A0.frz, AV.frz, C.frz, Nat.le_refl, List.set_cons_zero, List.set_cons_succ, go_sem, hf0])
 have hSl := (GA hv (by omega)).1
 refine Ac (fun x : Nat × List Int × List Value => { tm := [(0, .a (.c (.p 0 0))), (3, .a (.c (.s 1 X.length))), (6, .a (.c (.t 1 (Af x.2.1)))), (7, .i (Ew X.length x.2.1))], hp := [.r (VQ X D (Q.map Int.ofNat) (VN (Vm D) X.length) dv), .r ⟨9, 1, true, VH x.2.2⟩], n := 86, pin := 1 }) (fun x => x.2.1 = V0 (BE X) c0 x.1 /\ Nrm X.length x.2.1 /\ CpC X D x.2.1 /\ x.2.2.length = X.length) (fun x => X.length - Ew X.length x.2.1) (0, c0, ky0) ?_ ?_ ?_
 ·exact ⟨rfl, hN0, hC0, hkl⟩
 ·refine Le.trans (Ad [0, 1] rfl rfl) ?_
  (try simp only [List.set_nil, List.take_nil, List.take_zero, List.map_append, go_sem])
  (try simp only [Ee])
  simp only [VQ]
  exact Un
 clear hk hlt d1 hke hko
 rintro ⟨j, nw, ky⟩ ⟨hit, hN, hC, hkyl⟩ K hK
 simp only at hit hN hC hkyl
 simp only
 have hcn := OU X.length nw
 have hNl := hN.len
 have hcn1 : 1 <= Ew X.length nw := by
  have := (Ch (fun s => nw.getD s 0) X.length).rng 0 (by omega)
  unfold Ew; omega
 have hnn := Ro (BE X) nw
 have hnl := Sr (S := BE X) (by rw [hSl]; exact hN)
 rw [hSl] at hnn hnl
 have hcn2 := OU X.length (UZ (BE X) nw)
 have hnc : Ew X.length (UZ (BE X) nw) = (UW (UY (BE X) nw) X.length).2 := by
  have := LW (UY (BE X) nw) X.length
  unfold UZ; rw [hSl]; exact this
 have hnc1 : (UW (UY (BE X) nw) X.length).1 = UZ (BE X) nw := by unfold UZ; rw [hSl]
 have hCn := hC.next hv (by omega) hD hN
 (refine Ud ?_;(repeat clear hK K);repeat refine kq fun K hK=>?_)
 (refine A9 rfl ?_; intro K1 hK1; refine Cz (f := 58) (ids := []) (R := fun r o => r = .a (.c (.p 5 0)) /\ ∃ tc vc, HS (VQ X D (Q.map Int.ofNat) (VN (Vm D) X.length) dv) ⟨9, 1, true, VH ky⟩ X.length o tc vc /\ TA X nw Q Q.length o tc /\ TB X nw Q Q.length o vc) rfl rfl (by simp only [go_sem]) (by kernel_rfl) (RJ X D nw Q dv (Ew X.length nw) ⟨9, 1, true, VH ky⟩ (RP ky) (Ee ky) hv hn hr hD hQ hN hcn1 (by omega)) (fun r outs h => GF h.2.choose_spec.choose_spec.1.ok) ?_)
 rintro r G ⟨rfl, tc, vc, hH, hT, hTB⟩
 (simp only [go_sem]; refine hK1 _ ?_; clear hK1 K1)
 have gs := hH.h0
 (refine Ue (an @gs (an @Ft (an @A3 @hDl))) ?_;(repeat clear hK K);repeat refine kq fun K hK=>?_)
 refine Ac (fun x : Nat × List Ob × List Value => { tm := [(0, .a (.c (.p 0 0))), (3, .a (.c (.s 1 X.length))), (6, .a (.c (.t 1 (Af nw)))), (7, .i (Ew X.length nw)), (8, .a (.c (.p 5 0))), (47, .a (.c (.t 1 (Af D)))), (48, .i X.length), (49, .i x.1)], hp := x.2.1, n := 86, pin := 1 }) (fun x => x.1 <= X.length /\ x.2.2.length = X.length /\ (∀ s, s < x.1 -> ∃ L, x.2.2[s]? = some (Is L) /\ KeyOf X nw s L) /\ HS (VQ X D (Q.map Int.ofNat) (VN (Vm D) X.length) dv) ⟨9, 1, true, VH x.2.2⟩ X.length x.2.1 tc vc /\ TA X nw Q Q.length x.2.1 tc /\ TB X nw Q Q.length x.2.1 vc) (fun x => X.length - x.1) (0, G, ky) ?_ ?_ ?_
 ·exact ⟨by simp, hkyl, fun s hs => by simp at hs, hH, hT, hTB⟩
 ·exact Un
 clear hH hT hTB gs hkyl
 rintro ⟨k, G, ky⟩ ⟨hk, hkyl, hkys, hH, hT, hTB⟩ K hK
 simp only at hk hkyl hkys hH hT hTB
 simp only
 by_cases hlk : k < X.length
 rotate_left
 ·have d2 : decide ((k : Int) < (X.length : Int)) = false := by simpa using hlk
  have hke : k = X.length := by omega
  have hko := Sy hv hn hN hkyl (fun s hs => hkys s (by omega))
  have g0 := hH.h0
  have g1 := hH.hx
  (refine Ue @d2 ?_;(repeat clear hK K);repeat refine kq fun K hK=>?_)
  refine Ul ?_
  (refine Uh ?_;repeat clear hK K)
  (refine Ud ?_;(repeat clear hK K);repeat refine kq fun K hK=>?_)
  (refine A9 rfl ?_; intro K1 hK1; refine FY (a := 1) (ky := ky) (UY (BE X) nw) hko (by omega) rfl rfl (by simp only [go_sem, hkyl]) g1 (by simp [Ej, AV.nb, A0.nb, C.nb]) ?_; simp only [go_sem]; refine hK1 _ ?_; clear hK1 K1)
  rw [hkyl, hnc1, <- hnc]
  (refine Ud ?_;(repeat clear hK K);repeat refine kq fun K hK=>?_)
  have hG6 := B2 hH.h4
  obtain ⟨lg, hlg⟩ : ∃ l, G.length = l := ⟨_, rfl⟩
  rw [hlg] at hG6
  simp only [hlg]
  have gn := AZ G (Am (UZ (BE X) nw))
  rw [hlg] at gn
  have g0' := (Pre.push G (Am (UZ (BE X) nw))).at g0
  have g1' := (Pre.push G (Am (UZ (BE X) nw))).at g1
  generalize G ++ [Am (UZ (BE X) nw)] = G2 at *
  refine B1 (BG (tm := [(0, .a (.c (.p 0 0))), (3, .a (.c (.s 1 X.length))), (6, .a (.c (.t 1 (Af nw)))), (7, .i (Ew X.length nw)), (11, .a (.c (.s lg X.length))), (12, .i (Ew X.length (UZ (BE X) nw))), (82, .b (((Ew X.length (UZ (BE X) nw) : Nat) : Int) == ((Ew X.length nw : Nat) : Int)))]) ?_) ?_
  ·simp only [Dl, go_sem]; try simp
  have i1 : idx [0, 1, lg] 1 0 = some 1 := by simp [idx]
  have i2 : idx [0, 1, lg] lg 0 = some 2 := by
   have e1 : ¬ 0 = lg := by omega
   have e2 : ¬ 1 = lg := by omega
   simp [idx, e1, e2]
  refine B1 (Ad [0, 1, lg] ?_ rfl) ?_
  ·have e1 : ¬ 0 = lg := by omega
   have e2 : ¬ 1 = lg := by omega
   simp [AM]; omega
  have i0 : idx [0, 1, lg] 0 0 = some 0 := rfl
  have hr1 : (Ob.r (VQ X D (Q.map Int.ofNat) (VN (Vm D) X.length) dv)).ren [0, 1, lg] = .r (VQ X D (Q.map Int.ofNat) (VN (Vm D) X.length) dv) := by simp [Ob.ren, VQ, C.ren]
  have hr2 : (Ob.r ⟨9, 1, true, VH ky⟩).ren [0, 1, lg] = .r ⟨9, 1, true, VH ky⟩ := by simp [Ob.ren, Ee]
  have hr3 := Fj (UZ (BE X) nw) [0, 1, lg]
  simp only [ST.pick, List.map_cons, List.map_nil, AV.ren, A0.ren, C.ren, AV.i, AV.b, i0, i1, i2, Cl g0', Cl g1', Cl gn, hr1, hr2, hr3]
  by_cases hceq : Ew X.length (UZ (BE X) nw) = Ew X.length nw
  ·have hfx : UZ (BE X) nw = nw := Decidable.byContradiction fun h => by have := hnl h; omega
   have d4 : (((Ew X.length (UZ (BE X) nw) : Nat) : Int) == ((Ew X.length nw : Nat) : Int)) = true := by rw [hceq]; simp
   simp only [d4]
   refine Uk ?_
   (refine Ud ?_;(repeat clear hK K);repeat refine kq fun K hK=>?_)
   ((try refine AU ?_); (try simp only [Ai, AX]); refine BQ (Ad [0] rfl rfl) ?_; (try simp only [List.set_nil, List.take_nil, List.take_zero, List.map_append, go_sem]); ((try refine AU ?_); (try refine Ab ?_); (try simp only [Ai, AX]); refine C6 (by first | exact .inl rfl | exact .inr rfl) rfl ?_; simp only [TC, GQ, FD, Hb, Tryd.results34, go_sem, true_and, and_true, AK, VQ]))
   exact ⟨nw, ⟨dv, hB, j, by rw [hc00]; exact hit, hfx⟩, hN, rfl⟩
  have hne : UZ (BE X) nw ≠ nw := fun h => hceq (by rw [h])
  have hlt2 := hnl hne
  have d4 : (((Ew X.length (UZ (BE X) nw) : Nat) : Int) == ((Ew X.length nw : Nat) : Int)) = false := by simp only [beq_eq_false_iff_ne, ne_eq]; omega
  simp only [d4]
  refine Ul ?_
  (refine Ud ?_;(repeat clear hK K);repeat refine kq fun K hK=>?_)
  refine Um ?_
  refine hK _ (j + 1, UZ (BE X) nw, ky) ⟨?_, hnn, hCn, hkyl⟩ (by simp only; omega) ?_
  ·simp only
   rw [show V0 (BE X) c0 (j + 1) = UZ (BE X) (V0 (BE X) c0 j) from rfl, <- hit]
  simp only
  have hw2l := hnn.len
  generalize hw2 : UZ (BE X) nw = w2 at *
  have hf0 : (if X.length <= (Af w2).length then C.t 1 ((Af w2).take X.length) else C.u) = C.t 1 (Af w2) := by rw [if_pos (by rw [A3]; omega), gE7 (by rw [A3]; omega)]
  simp only [Am]
  (refine Qx (Bh (r := ⟨3, 1, true, A5 w2⟩) 2 (Af w2) rfl (I9 _) (show 0 < (1 : Nat) by omega)) ?_; simp only [ST.frz, A0.frz, AV.frz, C.frz, Nat.le_refl, List.set_cons_zero, List.set_cons_succ, go_sem, hf0])
  refine Le.trans (Ad [0, 1] rfl rfl) ?_
  (try simp only [List.set_nil, List.take_nil, List.take_zero, List.map_append, go_sem])
  (try simp only [Ee])
  simp only [VQ]
  exact Un
 have d2 : decide ((k : Int) < (X.length : Int)) = true := by simpa using hlk
 obtain ⟨gD0, hfk, hr1, hr2, hff⟩ := Bi hv hD hlk
 have gD := Ap gD0
 have hle : Vm D k <= k := by
  obtain ⟨m, e1, _, _, e4⟩ := hD.2 k hlk
  rw [M3 gD0] at e1
  have := e4 k (.refl _) (.refl _)
  omega
 have g1 := hH.hx
 have hcl : (VH ky).length = X.length := by rw [Fg, hkyl]
 (refine Ue @d2 ?_;(repeat clear hK K);repeat refine kq fun K hK=>?_)
 refine Uk ?_
 (refine Ue (an @gD (an @A3 @hDl)) ?_;(repeat clear hK K);repeat refine kq fun K hK=>?_)
 by_cases hek : Vm D k = k
 rotate_left
 ·have d3 : ((k : Int) == ((Vm D k : Nat) : Int)) = false := by simp only [beq_eq_false_iff_ne, ne_eq]; omega
  simp only [d3]
  obtain ⟨L, q1, q2⟩ := hkys (Vm D k) (by omega)
  have hko := q2.cp hv hD hC hlk
  obtain ⟨sb, hsb⟩ : ∃ b, Is L = Value.string b := ⟨_, rfl⟩
  rw [hsb] at q1
  have gk : (VH ky)[Vm D k]? = some (.v (.string sb)) := by simp [VH, q1]
  refine Ul ?_
  (refine CY (an @g1 (an @hcl (an @gk @Iu))) ?_;(repeat clear hK K);repeat refine kq fun K hK=>?_)
  refine B9 (fun G3 => HS (VQ X D (Q.map Int.ofNat) (VN (Vm D) X.length) dv) ⟨9, 1, true, VH (ky.set k (.string sb))⟩ X.length G3 tc vc /\ TA X nw Q Q.length G3 tc /\ TB X nw Q Q.length G3 vc) ?_ ?_
  ·exact ⟨hH.setK _, hT.set1 _, hTB.set1 _⟩
  rintro G3 ⟨hH3, hT3, hTB3⟩
  simp only
  refine Um ?_
  refine hK _ (k + 1, G3, ky.set k (.string sb)) ⟨by simp only; omega, by simp only; rw [List.length_set]; exact hkyl, ?_, hH3, hT3, hTB3⟩ (by simp only; omega) ?_
  rotate_left
  ·exact Un
  intro s hs
  simp only at hs ⊢
  by_cases e : s = k
  ·subst e
   exact ⟨L, by rw [hsb, gEc (by omega)], hko⟩
  obtain ⟨M, q1, q2⟩ := hkys s (by omega)
  exact ⟨M, by rw [gE5 (Ne.symm e)]; exact q1, q2⟩
 rw [hek] at gD ⊢
 have d3 : ((k : Int) == (k : Int)) = true := by simp
 simp only [d3]
 obtain ⟨j', hj', hQj⟩ := List.getElem_of_mem ((hQ.2.1 k).2 ⟨hlk, hek⟩)
 obtain ⟨x, w, tx1, tx2, tx3, tx4⟩ := hT.2.2 j' k hj' (by rw [gE1 hj', hQj])
 obtain ⟨m, V, ty1, ty2, ty3, ty4⟩ := hTB.2.2 j' k hj' (by rw [gE1 hj', hQj])
 have gW := Ap (show nw[k]? = some (nw.getD k 0) from by rw [gE2, gE1 (by omega)]; rfl)
 have hVl : V.length <= 2000 := by
  have h := Cu (m := (List.range 1026).map Int.ofNat) ty4.nd (fun e he => by
   obtain ⟨p, hp, rfl⟩ := List.mem_map.1 he
   obtain ⟨_, _, _, i, hi, ho⟩ := ty4.ob p hp
   have hr3 := RO hv ((ty4.ex p.1 i hi).1 ⟨p, hp, rfl, ho⟩)
   exact List.mem_map.2 ⟨p.1.toNat, by rw [List.mem_range]; omega, by simp only [Int.ofNat_eq_natCast]; omega⟩)
  rw [List.length_map, List.length_map, List.length_range] at h
  omega
 have hkm := fun VL h1 h2 => KeyOf.mk2 (VL := VL) hv hN hn tx4 ty4 h1 h2
 generalize nw.getD k 0 = x0 at *
 refine Uk ?_
 (refine Ue (an @gW (an @A3 @hNl)) ?_;(repeat clear hK K);repeat refine kq fun K hK=>?_)
 (refine A9 rfl ?_; intro K1 hK1; refine Cz (f := 59) (ids := []) (R := fun r o => (∃ VL : List (Int × Nat), Ur (VL.map fun q : Int × Nat => q.1) /\ (∀ q, q ∈ VL ↔ ∃ p ∈ V, q = (p.1, p.2.2)) /\ r = .a (.c (.v (Is (EG x0 w VL))))) /\ Pre G o /\ o.all BL = true) rfl rfl (by simp only [go_sem]) (by kernel_rfl) (Qv G 5 3 4 X.length k x m w x0 tc vc V hH.h4 hH.h2 hH.h3 hT.1 hTB.1 (by omega) hlk tx1 tx3 tx4.1 ty1 ty3 ty4.nd (fun p hp => by obtain ⟨_, a2, a3, _⟩ := ty4.ob p hp; exact ⟨a2, a3⟩) hVl hH.ok) (fun r outs h => GF h.2.2) ?_)
 rintro r G2 ⟨⟨VL, hV1, hV2, rfl⟩, hP2, hok2⟩
 have hko := hkm VL hV1 hV2
 obtain ⟨L, hL⟩ : ∃ L, EG x0 w VL = L := ⟨_, rfl⟩
 rw [hL] at hko ⊢
 obtain ⟨sb, hsb⟩ : ∃ b, Is L = Value.string b := ⟨_, rfl⟩
 rw [hsb]
 (simp only [go_sem]; refine hK1 _ ?_; clear hK1 K1)
 have hH2 := hH.pre hP2 hok2
 have g2 := hP2.at g1
 (refine CY (an @g2 (an @hcl @Iu)) ?_;(repeat clear hK K);repeat refine kq fun K hK=>?_)
 refine B9 (fun G3 => HS (VQ X D (Q.map Int.ofNat) (VN (Vm D) X.length) dv) ⟨9, 1, true, VH (ky.set k (.string sb))⟩ X.length G3 tc vc /\ TA X nw Q Q.length G3 tc /\ TB X nw Q Q.length G3 vc) ?_ ?_
 ·exact ⟨hH2.setK _, (hT.pre hP2).set1 _, (hTB.pre hP2).set1 _⟩
 rintro G3 ⟨hH3, hT3, hTB3⟩
 simp only
 refine Um ?_
 refine hK _ (k + 1, G3, ky.set k (.string sb)) ⟨by simp only; omega, by simp only; rw [List.length_set]; exact hkyl, ?_, hH3, hT3, hTB3⟩ (by simp only; omega) ?_
 rotate_left
 ·exact Un
 intro s hs
 simp only at hs ⊢
 by_cases e : s = k
 ·subst e
  exact ⟨L, by rw [hsb, gEc (by omega)], hko⟩
 obtain ⟨M, q1, q2⟩ := hkys s (by omega)
 exact ⟨M, by rw [gE5 (Ne.symm e)]; exact q1, q2⟩
set_option maxHeartbeats 2000000 in
theorem RQ (R : List (List Ar)) (hv : Bg R = true) (hn : R.length <= 64) (hr : ∀ r ∈ R, r.length <= 1000000) : FC Tryd.prog 20 [BS R] [] (fun r o => ∃ c, VJ R c /\ Nrm R.length c /\ o = [] /\ r = AK c) := by
 refine A8 Tryd.func20 rfl (by rw [Tryd.ntmps20]; simp) ?_
 rw [Tryd.ntmps20]
 simp only [Bs, BS]
 have hlo : Br R = true := gEg (gE4 hv).1
 have hbL : JM [R] = R := NV R
 (refine Ud ?_;(repeat clear hK K);repeat refine kq fun K hK=>?_)
 (refine Ui (CC R (by omega) (fun r h => by have := hr r h; omega)) ?_; intro K1 hK1)
 rintro _ _ ⟨rfl, rfl⟩
 (refine Uj ?_; clear hK1 K1)
 rw [hv]
 (refine Ue @Bool.not_true ?_;(repeat clear hK K);repeat refine kq fun K hK=>?_)
 refine Ul ?_
 (refine Ud ?_;(repeat clear hK K);repeat refine kq fun K hK=>?_)
 have hf : (if 1 <= (VR [R]).length then C.t 1 ((VR [R]).take 1) else C.u) = C.t 1 (VR [R]) := rfl
 (refine B3 (Bh (r := ⟨24, 1, true, [.t 1 (Ae R)]⟩) 1 (VR [R]) rfl ⟨.inl rfl, trivial⟩ (show 0 < (1 : Nat) by omega)) ?_; simp only [ST.frz, A0.frz, AV.frz, C.frz, Nat.le_refl, List.set_cons_zero, List.set_cons_succ, go_sem, hf])
 have hns := Qs [R] (by simp) (by simp) (by simpa using hv) (by simpa using hr) (by have := (gE4 hlo).2.1; simpa using this) (by have := (gE4 hlo).2.2.1; simpa using this)
 rw [hbL] at hns
 (refine Ui hns ?_; intro K1 hK1)
 rintro _ _ ⟨rfl, D, Q, B, _, hD, hB, hQ, rfl⟩
 simp only [VQ]
 (refine Uj ?_; clear hK1 K1)
 (refine Ud ?_;(repeat clear hK K);repeat refine kq fun K hK=>?_)
 (refine A9 rfl ?_; intro K1 hK1; refine As (ids := []) [2] (Qy R D Q B hv hn hr hD hQ hB) rfl rfl (by simp only [go_sem]) (by first | assumption | kernel_rfl) rfl rfl (by (simp only [List.map_append, List.append_nil, go_sem]) <;> rfl) (by (simp only [Tx, VQ, go_sem]) <;> rfl) ?_ ?_)
 ·rintro _ _ ⟨c, _, _, rfl, rfl⟩; rfl
 rintro _ _ ⟨c, hc, hN, rfl, rfl⟩
 simp only [VQ]
 (refine Uj ?_; clear hK1 K1)
 (refine Ud ?_;(repeat clear hK K);repeat refine kq fun K hK=>?_)
 ((try refine AU ?_); (try simp only [Ai, AX]); refine BQ (Ad [] rfl rfl) ?_; (try simp only [List.set_nil, List.take_nil, List.take_zero, List.map_append, go_sem]); ((try refine AU ?_); (try refine Ab ?_); (try simp only [Ai, AX]); refine C6 (by first | exact .inl rfl | exact .inr rfl) rfl ?_; simp only [TC, GQ, FD, Hb, Tryd.results20, go_sem, true_and, and_true, AK]))
 exact ⟨c, hc, hN, rfl⟩
def W0 (R : List (List Ar)) (B : List Bool) (c : List Int) (s : Nat) : Bool := B.getD s false || (!UT (R.getD s []) && c.getD ((R.getD s []).headD (0, 0)).2.toNat 0 != c.getD s 0)
set_option maxHeartbeats 4000000 in
theorem Ou (R : List (List Ar)) (hv : Bg R = true) (hn : R.length <= 64) (hr : ∀ r ∈ R, r.length <= 1000000) : FC Tryd.prog 6 [BS R] [] (fun r o => ∃ B c, ∃ p : Nat -> Bool, DvL R B /\ VJ R c /\ Nrm R.length c /\ (∀ u, u < R.length -> (p u = true ↔ Rc (Uy false R) 0 u)) /\ o = [] /\ r = .b ((Gt R.length p).all fun s => !W0 R B c s)) := by
 refine A8 Tryd.func6 rfl (by rw [Tryd.ntmps6]; simp) ?_
 rw [Tryd.ntmps6]
 have hlo : Br R = true := gEg (gE4 hv).1
 have h1 : 1 <= R.length := (gE4 hlo).1
 have hva := CC R (by omega) (fun r h => by have := hr r h; omega)
 rw [hv] at hva
 have hdv := LO R hv (by omega) hr
 have hwc := RQ R hv hn hr
 have hgr := LS R false [0] hv (by omega) hr (by simp; omega) (by simp)
 have e0 : ([0].map Int.ofNat) = [(0 : Int)] := rfl
 rw [e0] at hgr
 have hst := fun k (h : k < R.length) => Hy R k h (by omega) hr
 simp only [Bs, BS, AK] at hva hdv hwc hgr hst ⊢
 (refine Ud ?_;(repeat clear hK K);repeat refine kq fun K hK=>?_)
 (refine Ui hva ?_; intro K1 hK1)
 rintro _ _ ⟨rfl, rfl⟩
 (refine Uj ?_; clear hK1 K1)
 (refine Ue @Bool.not_true ?_;(repeat clear hK K);repeat refine kq fun K hK=>?_)
 refine Ul ?_
 (refine Ud ?_;(repeat clear hK K);repeat refine kq fun K hK=>?_)
 (refine C2 [] [(0, 1, 1), (2, 1, 3), (1, 2, 0), (3, 2, 0), (4, 2, 0), (5, 2, 0)] (by kernel_rfl) (by kernel_rfl) (by intro c st h; simp [Ai, AX, Tz] at h) ?_)
 (refine Ub ?_; repeat clear hK K)
 (refine U0 rfl rfl ?_; intro K1 hK1; refine Bb ?_; refine xv [] (hdv) ?_ ?_)
 ·rintro _ _ ⟨_, _, rfl, rfl⟩ i o hi hl; simp at hl
 rintro _ _ ⟨B, hB, rfl, rfl⟩
 (refine Uj ?_; clear hK1 K1)
 (refine Ub ?_; repeat clear hK K)
 (refine U0 rfl rfl ?_; intro K1 hK1; refine Bb ?_; refine xv [] (hwc) ?_ ?_)
 ·rintro _ _ ⟨_, _, _, rfl, rfl⟩ i o hi hl; simp at hl
 rintro _ _ ⟨c, hc, hN, rfl, rfl⟩
 (refine Uj ?_; clear hK1 K1)
 (refine Ub ?_; repeat clear hK K)
 (refine U1 rfl rfl rfl ?_; intro K1 hK1; refine Ba rfl ?_; simp only [go_sem]; (first | refine hK1 _ ?_ | refine AE (hK1 _ ?_)); clear hK1 K1)
 (refine U1 rfl rfl rfl ?_; intro K1 hK1; refine Ba rfl ?_; simp only [go_sem]; (first | refine hK1 _ ?_ | refine AE (hK1 _ ?_)); clear hK1 K1)
 (refine Ub ?_; repeat clear hK K)
 (refine Ud ?_;(repeat clear hK K);repeat refine kq fun K hK=>?_)
 (refine B3 (Bh (r := ⟨3, 1, true, A5 [(0 : Int)]⟩) 1 (Af [(0 : Int)]) rfl (I9 _) (show 0 < (1 : Nat) by omega)) ?_; simp only [ST.frz, A0.frz, AV.frz, C.frz, Nat.le_refl, List.set_cons_zero, List.set_cons_succ, go_sem, show (Af [(0 : Int)]).take 1 = Af [(0 : Int)] from rfl])
 (refine Ui hgr ?_; intro K1 hK1)
 rintro _ _ ⟨p, hp, rfl, rfl⟩
 obtain ⟨M, hM⟩ : ∃ M, Gt R.length p = M := ⟨_, rfl⟩
 have hend : ∀ v, v = (M.all fun s => !W0 R B c s) -> ∃ B c, ∃ p : Nat -> Bool, DvL R B /\ VJ R c /\ Nrm R.length c /\ (∀ u, u < R.length -> (p u = true ↔ Rc (Uy false R) 0 u)) /\ ([] : List Ob) = [] /\ AV.b v = .b ((Gt R.length p).all fun s => !W0 R B c s) := fun v h => ⟨B, c, p, hB, hc, hN, fun u hu => by rw [hp u hu]; simp, rfl, by rw [hM, h]⟩
 have hMl : ∀ s ∈ M, s < R.length := fun s h => by rw [<- hM] at h; exact (Cf.1 h).1
 have hMn : M.length <= R.length := by
  rw [<- hM]
  unfold Gt
  exact Nat.le_trans (List.length_filter_le _ _) (by rw [List.length_range]; exact Nat.le_refl _)
 rw [hM]
 (refine Uj ?_; clear hK1 K1)
 (refine Ue (an @A3 @List.length_map.{0, 0}) ?_;(repeat clear hK K);repeat refine kq fun K hK=>?_)
 refine Ac (fun k : Nat => { tm := [(1, .a (.c (.p 0 0))), (3, .a (.c (.t 1 (UN B)))), (4, .a (.c (.t 1 (Af c)))), (16, .a (.c (.t 1 (Af (M.map Int.ofNat))))), (17, .i M.length), (18, .i k)], hp := [.r ⟨24, 1, false, [.t 1 (Ae R)]⟩], n := 51, pin := 0 }) (fun k => k <= M.length /\ ∀ s ∈ M.take k, W0 R B c s = false) (fun k => M.length - k) 0 ?_ ?_ ?_
 ·exact ⟨by omega, by simp⟩
 ·refine Le.trans (Ad [0] rfl rfl) ?_
  (try simp only [List.set_nil, List.take_nil, List.take_zero, List.map_append, go_sem])
  exact Un
 rintro k ⟨hk, hall⟩ K hK
 by_cases hlt : k < M.length
 rotate_left
 ·have d1 : decide ((k : Int) < (M.length : Int)) = false := by simpa using hlt
  have hke : k = M.length := by omega
  subst hke
  rw [List.take_length] at hall
  have hv1 : (true : Bool) = (M.all fun s => !W0 R B c s) := by
   refine (List.all_eq_true.2 fun s hs => ?_).symm
   rw [hall s hs]; rfl
  (refine Ue @d1 ?_;(repeat clear hK K);repeat refine kq fun K hK=>?_)
  refine Ul ?_
  (refine Uh ?_;repeat clear hK K)
  (refine Ud ?_;(repeat clear hK K);repeat refine kq fun K hK=>?_)
  refine Uo [] Tryd.results6 ?_
  obtain ⟨B', c', p', a1, a2, a3, a4, _, a6⟩ := hend _ hv1
  exact ⟨B', c', p', a1, a2, a3, a4, a6⟩
 have d1 : decide ((k : Int) < (M.length : Int)) = true := by simpa using hlt
 have hsl := hMl _ (gE6 hlt)
 have gM := Ap (show (M.map Int.ofNat)[k]? = some ((M[k] : Nat) : Int) from by rw [List.getElem?_map, gE1 hlt]; rfl)
 have htk := gE8 hlt
 have hks := gE6 hlt
 generalize M[k] = s at *
 have gB := Ih (show B[s]? = some (B.getD s false) from by rw [gE2, gE1 (by rw [hB.1]; exact hsl)]; rfl)
 have gR := AQ (gE1 hsl)
 (refine Ue @d1 ?_;(repeat clear hK K);repeat refine kq fun K hK=>?_)
 refine Uk ?_
 (refine Ue (an @gM (an @A3 @List.length_map.{0, 0})) ?_;(repeat clear hK K);repeat refine kq fun K hK=>?_)
 (refine C2 [] [(0, 0, 0), (1, 0, 0), (2, 0, 0), (3, 1, 7), (4, 0, 0), (5, 1, 7), (6, 0, 0), (7, 2, 0), (8, 0, 0), (9, 0, 0), (10, 0, 0), (11, 0, 0), (12, 1, 27), (13, 0, 0), (14, 0, 0), (15, 1, 27), (16, 0, 0), (17, 0, 0), (18, 1, 27), (19, 0, 0), (20, 1, 27), (21, 0, 0), (22, 0, 0), (23, 0, 0), (24, 1, 27), (25, 0, 0), (26, 0, 0), (27, 2, 0)] (by kernel_rfl) (by kernel_rfl) (by intro c st h; simp [Ai, AX, Tz] at h) ?_)
 have hsM : s ∈ M := hks
 have hRs : R.getD s [] = R[s] := by rw [gE2, gE1 hsl]; rfl
 have hno : W0 R B c s = true -> (false : Bool) = (M.all fun s => !W0 R B c s) := fun h => by
  symm
  rw [List.all_eq_false]
  exact ⟨s, hsM, by rw [h]; simp⟩
 have hgo : W0 R B c s = false -> k + 1 <= M.length /\ ∀ x ∈ M.take (k + 1), W0 R B c x = false := fun h => by
  refine ⟨by omega, fun x hx => ?_⟩
  rw [htk] at hx
  rcases List.mem_append.1 hx with h2 | h2
  ·exact hall x h2
  simp only [List.mem_singleton] at h2; rw [h2]; exact h
 cases hb : B.getD s false with
 | true =>
  (refine Uc (an @gB (an @hb (an @BT @hB.1))) ?_; repeat clear hK K)
  (refine U1 rfl rfl rfl ?_; intro K1 hK1; refine Ba rfl ?_; simp only [go_sem]; (first | refine hK1 _ ?_ | refine AE (hK1 _ ?_)); clear hK1 K1)
  (refine Ub ?_; repeat clear hK K)
  refine Uk ?_
  (refine Ud ?_;(repeat clear hK K);repeat refine kq fun K hK=>?_)
  refine Uo [] Tryd.results6 ?_
  obtain ⟨B', c', p', a1, a2, a3, a4, _, a6⟩ := hend _ (hno (by unfold W0; rw [hb]; rfl))
  exact ⟨B', c', p', a1, a2, a3, a4, a6⟩
 | false =>
  (refine Uc (an @gB (an @hb (an @BT @hB.1))) ?_; repeat clear hK K)
  (refine Sj rfl rfl rfl (by simp only [go_sem] <;> rfl) ?_; intro K1 hK1; refine Bb ?_; refine xv [] (hst s hsl) ?_ ?_)
  ·rintro _ _ ⟨rfl, rfl⟩ i o hi hl; simp at hl
  rintro _ _ ⟨rfl, rfl⟩
  (refine Uj ?_; clear hK1 K1)
  cases hq : UT R[s] with
  | true =>
   (refine Uc (an @Bool.not_true @Bool.false_eq_true) ?_; repeat clear hK K)
   (refine U1 rfl rfl rfl ?_; intro K1 hK1; refine Ba rfl ?_; simp only [go_sem, Bool.not_true, Bool.false_eq_true]; (first | refine hK1 _ ?_ | refine AE (hK1 _ ?_)); clear hK1 K1)
   (refine Ub ?_; repeat clear hK K)
   refine Ul ?_
   (refine Ud ?_;(repeat clear hK K);repeat refine kq fun K hK=>?_)
   refine Um ?_
   refine hK _ (k + 1) (hgo (by unfold W0; rw [hb, hRs, hq]; rfl)) (by omega) ?_
   exact Un
  | false =>
   obtain ⟨a, q, hrow⟩ : ∃ a q, R[s] = a :: q := by
    cases e : R[s] with
    | nil => rw [e] at hq; simp [UT] at hq
    | cons a q => exact ⟨a, q, rfl⟩
   have hab := Em hv hsl (a := a) (by rw [hRs, hrow]; exact List.mem_cons_self)
   obtain ⟨e, t⟩ := a
   obtain ⟨u, rfl⟩ : ∃ u : Nat, t = (u : Int) := ⟨t.toNat, by omega⟩
   have hul : u < R.length := by omega
   have hcl := hN.len
   have g1 := Ap (show c[u]? = some (c.getD u 0) from by rw [gE2, gE1 (by omega)]; rfl)
   have g2 := Ap (show c[s]? = some (c.getD s 0) from by rw [gE2, gE1 (by omega)]; rfl)
   rw [hrow] at gR
   have hval : W0 R B c s = (c.getD u 0 != c.getD s 0) := by
    unfold W0
    rw [hb, hRs, hq, hrow]
    simp
   (refine Uc (an @gR (an @g1 (an @g2 (an @A3 (an @hcl (an @A6 (an @A4 (an @List.length_cons.{0} @Bool.not_false)))))))) ?_; repeat clear hK K)
   (refine U1 rfl rfl rfl ?_; intro K1 hK1; refine Ba rfl ?_; simp only [go_sem]; (first | refine hK1 _ ?_ | refine AE (hK1 _ ?_)); clear hK1 K1)
   (refine Ub ?_; repeat clear hK K)
   (refine Aw ?_; intro X Y hX hY; simp only [go_sem])
   refine ⟨fun h => hX ?_, fun h => hY ?_⟩
   rotate_left
   ·clear hX hY X Y
    (refine Ud ?_;(repeat clear hK K);repeat refine kq fun K hK=>?_)
    refine Um ?_
    refine hK _ (k + 1) (hgo (hval.trans h)) (by omega) ?_
    exact Un
   clear hX hY X Y
   (refine Ud ?_;(repeat clear hK K);repeat refine kq fun K hK=>?_)
   refine Uo [] Tryd.results6 ?_
   obtain ⟨B', c', p', a1, a2, a3, a4, _, a6⟩ := hend _ (hno (hval.trans h))
   exact ⟨B', c', p', a1, a2, a3, a4, a6⟩
end Go.Proofs.YtjijjfkalheokaaDoor
