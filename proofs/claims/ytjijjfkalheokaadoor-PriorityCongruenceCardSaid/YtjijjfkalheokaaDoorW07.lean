/- Lemmas. -/
import Derived.Test.YtjijjfkalheokaaDoorZk
import Derived.Test.YtjijjfkalheokaaDoorW03
import Derived.Test.YtjijjfkalheokaaDoorMno
import Derived.Test.YtjijjfkalheokaaDoorG70
import Derived.Test.YtjijjfkalheokaaDoorG37
import Derived.Test.YtjijjfkalheokaaDoorG11
import Derived.Test.YtjijjfkalheokaaDoorDw1
import Derived.Test.YtjijjfkalheokaaDoorQu1
import Derived.Test.YtjijjfkalheokaaDoorME
namespace Go.Proofs.YtjijjfkalheokaaDoor
set_option linter.unusedVariables false
set_option linter.unusedSimpArgs false
open Go.RowKit
set_option maxRecDepth 100000
attribute [local go_sem] lga C.pl C.one

def CpC (X:List (List Ar)) (D c:List Int):Prop:=∀ v,v<X.length->c.getD (Vm D v) 0=c.getD v 0
theorem RN {X:List (List Ar)} {D cl:List Int} (hv:Bg X=true) (h:CpOk X D) (hc:Nrm X.length cl) {v:Nat} (hs:v<X.length):UX (BE X) cl (Vm D v)=UX (BE X) cl v:=by
 have hcv:=(Bi hv h hs).2.1
 refine BN (AD _) (AD _) fun x=>?_
 show x∈UX (BE X) cl (Vm D v)↔x∈UX (BE X) cl v
 obtain ⟨e,y⟩:=x
 have key:∀ i:Nat,(e,(i:Int))∈UX (BE X) cl (Vm D v)↔(e,(i:Int))∈UX (BE X) cl v:=fun i=>by
  by_cases he:e=0
  ·subst he;rw [Ef hv hcv,Ef hv hs,Mk hv h hs]
  rw [Eg hv hcv he,Eg hv hs he,Kw hv h hs]
 constructor
 rotate_left
 ·intro hx
  obtain ⟨i,_,hy⟩:=Mf hv hc hs hx
  simp only at hy
  subst hy
  exact (key i).2 hx
 intro hx
 obtain ⟨i,_,hy⟩:=Mf hv hc hcv hx
 simp only at hy
 subst hy
 exact (key i).1 hx
theorem CpC.next {X:List (List Ar)} {D cl:List Int} (hv:Bg X=true) (hn:X.length<=100) (h:CpOk X D) (hc:Nrm X.length cl) (hC:CpC X D cl):CpC X D (UZ (BE X) cl):=by
 intro v hs
 have hSl:=(GA hv hn).1
 have hcv:=(Bi hv h hs).2.1
 unfold UZ
 refine ((Ch (UY (BE X) cl) (BE X).length).eq _ _ (by omega) (by omega)).2 ?_
 unfold UY
 rw [hC v hs,RN hv h hc hs]
theorem CpC.start {X:List (List Ar)} {D:List Int} {B:List Bool} (hv:Bg X=true) (h:CpOk X D) (hB:DvL X B):CpC X D (Vb B X.length):=by
 intro v hs
 obtain ⟨_,hcv,p3,p4,_⟩:=Bi hv h hs
 rw [Du hcv,Du hs]
 have e:B.getD (Vm D v) false=B.getD v false:=by
  rw [Bool.eq_iff_iff,hB.2 _ hcv,hB.2 _ hs]
  exact ⟨fun ⟨g,q1,q2⟩=>⟨g,p3.trans q1,q2⟩,fun ⟨g,q1,q2⟩=>⟨g,p4.trans q1,q2⟩⟩
 unfold Va
 rw [e]
theorem KeyOf.cp {X:List (List Ar)} {D cl L:List Int} (hv:Bg X=true) (h:CpOk X D) (hC:CpC X D cl) {v:Nat} (hs:v<X.length) (hk:KeyOf X cl (Vm D v) L):KeyOf X cl v L:=by
 obtain ⟨t,V,e1,e2,e3,e4,e5⟩:=hk.ex
 refine ⟨t,V,by rw [<- hC v hs];exact e1,e2.iff fun i _=>Mk hv h hs,e3,fun p hp=>?_,fun e i hr=>e5 e i ((Kw hv h hs).2 hr)⟩
 obtain ⟨a1,a2,i,a3⟩:=e4 p hp
 exact ⟨a1,a2.iff fun i _=>Kw hv h hs,i,(Kw hv h hs).1 a3⟩
theorem RO {X:List (List Ar)} {cl:List Int} (hv:Bg X=true) {s i:Nat} {e:Int} (h:RV X cl s e i):0<=e/\e<=1025:=by
 obtain ⟨_,u,hu,_,a,ha,rfl,_⟩:=h
 have:=Em hv hu ha
 exact ⟨this.1,this.2.1⟩
theorem KeyOf.mk2 {X:List (List Ar)} {cl:List Int} (hv:Bg X=true) (hc:Nrm X.length cl) (hn:X.length<=64) {s w:Nat} {H:List Ob} {V:List (Int × Nat × Nat)} {VL:List (Int × Nat)} (hw:WS w (RT X cl s)) (hV:VSt H 6 V (RV X cl s)) (h1:Ur (VL.map (·.1))) (h2:∀ q,q∈VL↔∃ p∈V,q=(p.1,p.2.2)):KeyOf X cl s (EG (cl.getD s 0) w VL):=by
 refine ⟨w,VL,rfl,hw,h1,fun q hq=>?_,fun e i hr=>?_⟩
 rotate_left
 ·have hi:=Sv hv hc hr
  obtain ⟨p,hp,rfl,_⟩:=(hV.ex e i (by omega)).2 hr
  exact List.mem_map.2 ⟨_,(h2 _).2 ⟨p,hp,rfl⟩,rfl⟩
 obtain ⟨p,hp,rfl⟩:=(h2 q).1 hq
 obtain ⟨o1,o2,o3,i,hi,ho⟩:=hV.ob p hp
 have hex:=(hV.ex p.1 i hi).1 ⟨p,hp,rfl,ho⟩
 refine ⟨RO hv hex,⟨o3,fun i hi=>?_⟩,i,hex⟩
 rw [<- hV.ex p.1 i hi]
 constructor
 ·intro hb;exact ⟨p,hp,rfl,hb⟩
 rintro ⟨p',hp',e1,hb⟩
 rw [<- Fi hV.nd hp' hp e1];exact hb
theorem KeyOf.nn {X:List (List Ar)} {cl L:List Int} (hc:Nrm X.length cl) (hn:X.length<=64) {s:Nat} (hs:s<X.length) (h:KeyOf X cl s L):Su L:=by
 obtain ⟨t,V,rfl,e2,e3,e4,e5⟩:=h.ex
 have hcl:=hc.len
 have hm:cl.getD s 0∈cl:=by rw [gE2,gE1 (by omega)];exact gE6 _
 have hr:=hc.rng _ hm
 intro x hx
 unfold EG at hx
 simp only [List.mem_cons,List.mem_append,List.mem_flatMap] at hx
 rcases hx with rfl | rfl | hx | ⟨p,hp,rfl | rfl | hx⟩
 ·omega
 ·have:=Cb t;omega
 ·have:=JE x hx;omega
 ·have:=(e4 p hp).1;omega
 ·have:=Cb p.2;omega
 have:=JE x hx;omega
theorem Sy {X:List (List Ar)} {cl:List Int} {ky:List Value} (hv:Bg X=true) (hn:X.length<=64) (hc:Nrm X.length cl) (hl:ky.length=X.length) (h:∀ s,s<X.length->∃ L,ky[s]?=some (Is L)/\KeyOf X cl s L):QS ky (UY (BE X) cl):=by
 intro a b ha hb
 rw [hl] at ha hb
 obtain ⟨L,h1,h2⟩:=h a ha
 obtain ⟨M,h3,h4⟩:=h b hb
 rw [gE2,h1,gE2,h3,Option.getD_some,Option.getD_some,Qa (h2.nn hc hn ha) (h4.nn hc hn hb)]
 congr 1
 rw [decide_eq_decide]
 exact KeyOf.iff hv hn hc ha hb h2 h4
theorem HS.setK {r0:Row} {n:Nat} {H:List Ob} {tc vc:List C} {ky:List Value} (h:HS r0 ⟨9,1,true,VH ky⟩ n H tc vc) (ky':List Value):HS r0 ⟨9,1,true,VH ky'⟩ n (H.set 1 (.r ⟨9,1,true,VH ky'⟩)) tc vc:=
 ⟨by rw [gE5 (by omega)];exact h.h0,gEc (B2 h.hx),by rw [gE5 (by omega)];exact h.h1,by rw [gE5 (by omega)];exact h.h2,by rw [gE5 (by omega)];exact h.h3,by rw [gE5 (by omega)];exact h.h4,BC h.ok (y:=.r ⟨9,1,true,VH ky'⟩) (by show (VH ky').all C.pl=true;simp [VH,C.pl]) 1⟩
theorem TA.set1 {X:List (List Ar)} {cl:List Int} {Q:List Nat} {k:Nat} {H:List Ob} {tc:List C} (h:TA X cl Q k H tc) (ob:Ob):TA X cl Q k (H.set 1 ob) tc:=⟨h.1,h.2.1,fun j c hj hc=>by
 obtain ⟨y,w,a,b,d,e⟩:=h.2.2 j c hj hc
 exact ⟨y,w,a,b,by rw [gE5 (by omega)];exact d,e⟩⟩
theorem TB.set1 {X:List (List Ar)} {cl:List Int} {Q:List Nat} {k:Nat} {H:List Ob} {vc:List C} (h:TB X cl Q k H vc) (ob:Ob):TB X cl Q k (H.set 1 ob) vc:=⟨h.1,h.2.1,fun j c hj hc=>by
 obtain ⟨m,V,a,a2,b,d⟩:=h.2.2 j c hj hc
 refine ⟨m,V,a,a2,by rw [gE5 (by omega)];exact b,d.nd,d.nk,fun p hp=>?_,d.ex⟩
 obtain ⟨q1,q2,q3⟩:=d.ob p hp
 exact ⟨q1,by rw [gE5 (by omega)];exact q2,q3⟩⟩
theorem RP (ky:List Value):(VH ky).all C.pl=true:=by simp [VH,C.pl]
section
variable {o : Oper} {st : ST} {K : ST -> Prop} {α : Type} [DecidableEq α]
theorem FY {x:Operand} {ts:Array TypeId} {a:Nat} {ky:List Value} (g:Nat->α) (hky:QS ky g) (hn:ky.length<=1000000) (hd:Tn o st.n=true) (ho:o.op=.call { callee:=.value (.func 57),args:=#[x],argTypes:=ts }) (hx:st.ev x=.a (.c (.s a ky.length))) (ha:st.hp[a]?=some (.r ⟨9,1,true,VH ky⟩))
  (hnb:Ej [a] st.tm=st.tm) (h:K ({ st with hp:=st.hp++[Am (UW g ky.length).1] }.put o.dst (.tup [.c (.s st.hp.length ky.length),.c (.v (.int .i64 (UW g ky.length).2))]))):Stp Tryd.prog o st K:=by
 have i1:idx [a] a 0=some 0:=by simp [idx]
 have hren:(Ob.r ⟨9,1,true,VH ky⟩).ren [a]=.r ⟨9,1,true,VH ky⟩:=by simp [Ob.ren,Ee]
 refine As (ids:=[]) [a] (Qw ky g hky hn) hd ho rfl (by kernel_rfl) rfl (by simp [B2 ha]) ?_ ?_ ?_ ?_
 ·simp [hx,Er,AV.ren,A0.ren,C.ren,i1]
 ·simp only [Tx,List.map_cons,List.map_nil,Cl ha,hren]
 ·rintro r outs ⟨rfl,rfl⟩;rfl
 rintro r outs ⟨rfl,rfl⟩
 have e:st.back [a] [.r ⟨9,1,true,VH ky⟩,Am (UW g ky.length).1]={ st with hp:=st.hp++[Am (UW g ky.length).1] }:=by
  unfold ST.back
  rw [hnb]
  have e2:(Ob.r ⟨9,1,true,VH ky⟩).up (TD [a] st.hp.length)=.r ⟨9,1,true,VH ky⟩:=by simp [Ob.up,RM]
  simp only [List.map_cons,List.map_nil,GL,e2,BJ]
  rw [EH ha]
 rw [e]
 have e3:(AV.tup [.c (.s 1 ky.length),.c (.v (.int .i64 (UW g ky.length).2))]).up (TD [a] st.hp.length)=.tup [.c (.s st.hp.length ky.length),.c (.v (.int .i64 (UW g ky.length).2))]:=by simp [AV.up,A0.up,C.up,TD]
 rw [e3];exact h
end
set_option maxHeartbeats 8000000 in
theorem Qy (X:List (List Ar)) (D:List Int) (Q:List Nat) (dv:List Bool) (hv:Bg X=true) (hn:X.length<=64) (hr:∀ r∈X,r.length<=1000000) (hD:CpOk X D) (hQ:Gy (Vf (Vm D) X X.length) X.length (Vm D) Q) (hB:DvL X dv):FC Tryd.prog 34 [.a (.c (.p 0 0))] [.r (VQ X D (Q.map Int.ofNat) (VN (Vm D) X.length) dv)] (fun r o=>∃ c,WkC X c/\Nrm X.length c/\r=AK c/\o=[.r (VQ X D (Q.map Int.ofNat) (VN (Vm D) X.length) dv)]):=by
 refine A8 Tryd.func34 rfl (by rw [Tryd.ntmps34];simp) ?_
 rw [Tryd.ntmps34]
 have hlo:Br X=true:=gEg (gE4 hv).1
 have h1:1<=X.length:=(gE4 hlo).1
 have hDl:=hD.1
 have hBl:=hB.1
 simp only [Bs,VQ]
 (refine Ue (an @A6 (an @BT @hBl)) ?_;(repeat clear hK K);repeat refine kq fun K hK=>?_)
 have e0:List.replicate X.length (C.v (.string { data:=#[] }))=VH (VI VY VZ dv X.length 0):=by rw [O3];simp [VH,VZ]
 rw [e0]
 refine Ac (fun k:Nat=>{ tm:=[(0,.a (.c (.p 0 0))),(3,.a (.c (.s 1 X.length))),(23,.a (.c (.t 1 (UN dv)))),(24,.i X.length),(25,.i k)],hp:=[.r (VQ X D (Q.map Int.ofNat) (VN (Vm D) X.length) dv),.r ⟨9,1,true,VH (VI VY VZ dv X.length k)⟩],n:=86,pin:=1 }) (fun k=>k<=X.length) (fun k=>X.length - k) 0 ?_ ?_ ?_
 ·omega
 ·simp only [VQ]
  exact Un
 rintro k hk K hK
 simp only [VQ]
 by_cases hlt:k<X.length
 ·have d1:decide ((k:Int)<(X.length:Int))=true:=by simpa using hlt
  have gB:(UN dv)[k]?=some (.v (.bool (dv.getD k false))):=Ih (by rw [gE2,gE1 (by omega)];rfl)
  have hkt:=O4 (kd:=VY) (ke:=VZ) (B:=dv) (n:=X.length) (k:=k)
  have hkf:=Mb (kd:=VY) (ke:=VZ) (B:=dv) (n:=X.length) (k:=k)
  have hkl:=GD VY VZ dv X.length k
  generalize dv.getD k false=b at *
  (refine Ue @d1 ?_;(repeat clear hK K);repeat refine kq fun K hK=>?_)
  refine Uk ?_
  (refine Ue (an @BT (an @hBl @gB)) ?_;(repeat clear hK K);repeat refine kq fun K hK=>?_)
  cases b with
  | true=>
   have hkt:=hkt rfl
   refine Uk ?_
   have hks:(VH (VI VY VZ dv X.length k)).set k (C.v (Value.string { data:=#[100,105,118,101,114,103,101,110,116] }))=VH (VI VY VZ dv X.length (k+1)):=by rw [<- hkt];exact Iu _ _ _
   (refine CY (an @Fg (an @hkl @hks)) ?_;(repeat clear hK K);repeat refine kq fun K hK=>?_)
   refine Um ?_
   refine hK _ (k+1) (by omega) (by omega) ?_
   simp only [VQ]
   exact Un
  | false=>
   have hkf:=hkf rfl
   refine Ul ?_
   (refine Ud ?_;(repeat clear hK K);repeat refine kq fun K hK=>?_)
   refine Um ?_
   refine hK _ (k+1) (by omega) (by omega) ?_
   rw [hkf]
   simp only [VQ]
   exact Un
 have d1:decide ((k:Int)<(X.length:Int))=false:=by simpa using hlt
 have hke:k=X.length:=by omega
 rw [hke] at d1
 rw [hke]
 have hko:=RC (kd:=VY) (ke:=VZ) (by kernel_rfl) (by kernel_rfl) (by kernel_rfl) (by kernel_rfl) dv X.length
 have hkl:=GD VY VZ dv X.length X.length
 obtain ⟨hnm,_⟩:=Rp (B:=dv) X.length h1
 have hN0:=PX dv h1
 have hC0:=CpC.start hv hD hB
 have hc0:Ew X.length (Vb dv X.length)=(UW (fun s=>dv.getD s false) X.length).2:=by rw [<- hnm,LW]
 generalize VI VY VZ dv X.length X.length=ky0 at *
 (refine Ue @d1 ?_;(repeat clear hK K);repeat refine kq fun K hK=>?_)
 refine Ul ?_
 (refine Uh ?_;repeat clear hK K)
 (refine Ud ?_;(repeat clear hK K);repeat refine kq fun K hK=>?_)
 (refine A9 rfl ?_;intro K1 hK1;refine FY (a:=1) (ky:=ky0) (fun s=>dv.getD s false) hko (by omega) rfl rfl (by simp only [go_sem,hkl]) rfl (by simp [Ej,AV.nb,A0.nb,C.nb]) ?_;simp only [go_sem];refine hK1 _ ?_;clear hK1 K1)
 rw [hkl,hnm,<- hc0]
 clear hnm hc0
 generalize hc00:Vb dv X.length=c0 at *
 have hN0l:=hN0.len
 (refine Ud ?_;(repeat clear hK K);repeat refine kq fun K hK=>?_)
 simp only [Am,List.length_cons,List.length_nil,Nat.zero_add,List.cons_append,List.nil_append]
 have hf0:(if X.length<=(Af c0).length then C.t 1 ((Af c0).take X.length) else C.u)=C.t 1 (Af c0):=by rw [if_pos (by rw [A3];omega),gE7 (by rw [A3];omega)]
 (refine B1 (Bh (r:=⟨3,1,true,A5 c0⟩) 2 (Af c0) rfl (I9 _) (show 0<(1:Nat) by omega)) ?_;simp only [ST.frz,A0.frz,AV.frz,C.frz,Nat.le_refl,List.set_cons_zero,List.set_cons_succ,go_sem,hf0])
 have hSl:=(GA hv (by omega)).1
 refine Ac (fun x:Nat × List Int × List Value=>{ tm:=[(0,.a (.c (.p 0 0))),(3,.a (.c (.s 1 X.length))),(6,.a (.c (.t 1 (Af x.2.1)))),(7,.i (Ew X.length x.2.1))],hp:=[.r (VQ X D (Q.map Int.ofNat) (VN (Vm D) X.length) dv),.r ⟨9,1,true,VH x.2.2⟩],n:=86,pin:=1 }) (fun x=>x.2.1=V0 (BE X) c0 x.1/\Nrm X.length x.2.1/\CpC X D x.2.1/\x.2.2.length=X.length) (fun x=>X.length - Ew X.length x.2.1) (0,c0,ky0) ?_ ?_ ?_
 ·exact ⟨rfl,hN0,hC0,hkl⟩
 ·refine Le.trans (Ad [0,1] rfl rfl) ?_
  (try simp only [List.set_nil,List.take_nil,List.take_zero,List.map_append,go_sem])
  (try simp only [Ee])
  simp only [VQ]
  exact Un
 clear hk hlt d1 hke hko
 rintro ⟨j,nw,ky⟩ ⟨hit,hN,hC,hkyl⟩ K hK
 simp only at hit hN hC hkyl
 simp only
 have hcn:=OU X.length nw
 have hNl:=hN.len
 have hcn1:1<=Ew X.length nw:=by
  have:=(Ch (fun s=>nw.getD s 0) X.length).rng 0 (by omega)
  unfold Ew;omega
 have hnn:=Ro (BE X) nw
 have hnl:=Sr (S:=BE X) (by rw [hSl];exact hN)
 rw [hSl] at hnn hnl
 have hcn2:=OU X.length (UZ (BE X) nw)
 have hnc:Ew X.length (UZ (BE X) nw)=(UW (UY (BE X) nw) X.length).2:=by
  have:=LW (UY (BE X) nw) X.length
  unfold UZ;rw [hSl];exact this
 have hnc1:(UW (UY (BE X) nw) X.length).1=UZ (BE X) nw:=by unfold UZ;rw [hSl]
 have hCn:=hC.next hv (by omega) hD hN
 (refine Ud ?_;(repeat clear hK K);repeat refine kq fun K hK=>?_)
 (refine A9 rfl ?_;intro K1 hK1;refine Cz (f:=58) (ids:=[]) (R:=fun r o=>r=.a (.c (.p 5 0))/\∃ tc vc,HS (VQ X D (Q.map Int.ofNat) (VN (Vm D) X.length) dv) ⟨9,1,true,VH ky⟩ X.length o tc vc/\TA X nw Q Q.length o tc/\TB X nw Q Q.length o vc) rfl rfl (by simp only [go_sem]) (by kernel_rfl) (RJ X D nw Q dv (Ew X.length nw) ⟨9,1,true,VH ky⟩ (RP ky) (Ee ky) hv hn hr hD hQ hN hcn1 (by omega)) (fun r outs h=>GF h.2.choose_spec.choose_spec.1.ok) ?_)
 rintro r G ⟨rfl,tc,vc,hH,hT,hTB⟩
 (simp only [go_sem];refine hK1 _ ?_;clear hK1 K1)
 have gs:=hH.h0
 (refine Ue (an @gs (an @Ft (an @A3 @hDl))) ?_;(repeat clear hK K);repeat refine kq fun K hK=>?_)
 refine Ac (fun x:Nat × List Ob × List Value=>{ tm:=[(0,.a (.c (.p 0 0))),(3,.a (.c (.s 1 X.length))),(6,.a (.c (.t 1 (Af nw)))),(7,.i (Ew X.length nw)),(8,.a (.c (.p 5 0))),(47,.a (.c (.t 1 (Af D)))),(48,.i X.length),(49,.i x.1)],hp:=x.2.1,n:=86,pin:=1 }) (fun x=>x.1<=X.length/\x.2.2.length=X.length/\(∀ s,s<x.1->∃ L,x.2.2[s]?=some (Is L)/\KeyOf X nw s L)/\HS (VQ X D (Q.map Int.ofNat) (VN (Vm D) X.length) dv) ⟨9,1,true,VH x.2.2⟩ X.length x.2.1 tc vc/\TA X nw Q Q.length x.2.1 tc/\TB X nw Q Q.length x.2.1 vc) (fun x=>X.length - x.1) (0,G,ky) ?_ ?_ ?_
 ·exact ⟨by simp,hkyl,fun s hs=>by simp at hs,hH,hT,hTB⟩
 ·exact Un
 clear hH hT hTB gs hkyl
 rintro ⟨k,G,ky⟩ ⟨hk,hkyl,hkys,hH,hT,hTB⟩ K hK
 simp only at hk hkyl hkys hH hT hTB
 simp only
 by_cases hlk:k<X.length
 rotate_left
 ·have d2:decide ((k:Int)<(X.length:Int))=false:=by simpa using hlk
  have hke:k=X.length:=by omega
  have hko:=Sy hv hn hN hkyl (fun s hs=>hkys s (by omega))
  have g0:=hH.h0
  have g1:=hH.hx
  (refine Ue @d2 ?_;(repeat clear hK K);repeat refine kq fun K hK=>?_)
  refine Ul ?_
  (refine Uh ?_;repeat clear hK K)
  (refine Ud ?_;(repeat clear hK K);repeat refine kq fun K hK=>?_)
  (refine A9 rfl ?_;intro K1 hK1;refine FY (a:=1) (ky:=ky) (UY (BE X) nw) hko (by omega) rfl rfl (by simp only [go_sem,hkyl]) g1 (by simp [Ej,AV.nb,A0.nb,C.nb]) ?_;simp only [go_sem];refine hK1 _ ?_;clear hK1 K1)
  rw [hkyl,hnc1,<- hnc]
  (refine Ud ?_;(repeat clear hK K);repeat refine kq fun K hK=>?_)
  have hG6:=B2 hH.h4
  obtain ⟨lg,hlg⟩:∃ l,G.length=l:=⟨_,rfl⟩
  rw [hlg] at hG6
  simp only [hlg]
  have gn:=AZ G (Am (UZ (BE X) nw))
  rw [hlg] at gn
  have g0':=(Pre.push G (Am (UZ (BE X) nw))).at g0
  have g1':=(Pre.push G (Am (UZ (BE X) nw))).at g1
  generalize G++[Am (UZ (BE X) nw)]=G2 at *
  refine B1 (BG (tm:=[(0,.a (.c (.p 0 0))),(3,.a (.c (.s 1 X.length))),(6,.a (.c (.t 1 (Af nw)))),(7,.i (Ew X.length nw)),(11,.a (.c (.s lg X.length))),(12,.i (Ew X.length (UZ (BE X) nw))),(82,.b (((Ew X.length (UZ (BE X) nw):Nat):Int) == ((Ew X.length nw:Nat):Int)))]) ?_) ?_
  ·simp only [Dl,go_sem];try simp
  have i1:idx [0,1,lg] 1 0=some 1:=by simp [idx]
  have i2:idx [0,1,lg] lg 0=some 2:=by
   have e1:¬ 0=lg:=by omega
   have e2:¬ 1=lg:=by omega
   simp [idx,e1,e2]
  refine B1 (Ad [0,1,lg] ?_ rfl) ?_
  ·have e1:¬ 0=lg:=by omega
   have e2:¬ 1=lg:=by omega
   simp [AM];omega
  have i0:idx [0,1,lg] 0 0=some 0:=rfl
  have hr1:(Ob.r (VQ X D (Q.map Int.ofNat) (VN (Vm D) X.length) dv)).ren [0,1,lg]=.r (VQ X D (Q.map Int.ofNat) (VN (Vm D) X.length) dv):=by simp [Ob.ren,VQ,C.ren]
  have hr2:(Ob.r ⟨9,1,true,VH ky⟩).ren [0,1,lg]=.r ⟨9,1,true,VH ky⟩:=by simp [Ob.ren,Ee]
  have hr3:=Fj (UZ (BE X) nw) [0,1,lg]
  simp only [ST.pick,List.map_cons,List.map_nil,AV.ren,A0.ren,C.ren,AV.i,AV.b,i0,i1,i2,Cl g0',Cl g1',Cl gn,hr1,hr2,hr3]
  by_cases hceq:Ew X.length (UZ (BE X) nw)=Ew X.length nw
  ·have hfx:UZ (BE X) nw=nw:=Decidable.byContradiction fun h=>by have:=hnl h;omega
   have d4:(((Ew X.length (UZ (BE X) nw):Nat):Int) == ((Ew X.length nw:Nat):Int))=true:=by rw [hceq];simp
   simp only [d4]
   refine Uk ?_
   (refine Ud ?_;(repeat clear hK K);repeat refine kq fun K hK=>?_)
   ((try refine AU ?_);(try simp only [Ai,AX]);refine BQ (Ad [0] rfl rfl) ?_;(try simp only [List.set_nil,List.take_nil,List.take_zero,List.map_append,go_sem]);((try refine AU ?_);(try refine Ab ?_);(try simp only [Ai,AX]);refine C6 (by first | exact .inl rfl | exact .inr rfl) rfl ?_;simp only [TC,GQ,FD,Hb,Tryd.results34,go_sem,true_and,and_true,AK,VQ]))
   exact ⟨nw,⟨dv,hB,j,by rw [hc00];exact hit,hfx⟩,hN,rfl⟩
  have hne:UZ (BE X) nw ≠ nw:=fun h=>hceq (by rw [h])
  have hlt2:=hnl hne
  have d4:(((Ew X.length (UZ (BE X) nw):Nat):Int) == ((Ew X.length nw:Nat):Int))=false:=by simp only [beq_eq_false_iff_ne,ne_eq];omega
  simp only [d4]
  refine Ul ?_
  (refine Ud ?_;(repeat clear hK K);repeat refine kq fun K hK=>?_)
  refine Um ?_
  refine hK _ (j+1,UZ (BE X) nw,ky) ⟨?_,hnn,hCn,hkyl⟩ (by simp only;omega) ?_
  ·simp only
   rw [show V0 (BE X) c0 (j+1)=UZ (BE X) (V0 (BE X) c0 j) from rfl,<- hit]
  simp only
  have hw2l:=hnn.len
  generalize hw2:UZ (BE X) nw=w2 at *
  have hf0:(if X.length<=(Af w2).length then C.t 1 ((Af w2).take X.length) else C.u)=C.t 1 (Af w2):=by rw [if_pos (by rw [A3];omega),gE7 (by rw [A3];omega)]
  simp only [Am]
  (refine Qx (Bh (r:=⟨3,1,true,A5 w2⟩) 2 (Af w2) rfl (I9 _) (show 0<(1:Nat) by omega)) ?_;simp only [ST.frz,A0.frz,AV.frz,C.frz,Nat.le_refl,List.set_cons_zero,List.set_cons_succ,go_sem,hf0])
  refine Le.trans (Ad [0,1] rfl rfl) ?_
  (try simp only [List.set_nil,List.take_nil,List.take_zero,List.map_append,go_sem])
  (try simp only [Ee])
  simp only [VQ]
  exact Un
 have d2:decide ((k:Int)<(X.length:Int))=true:=by simpa using hlk
 obtain ⟨gD0,hfk,hr1,hr2,hff⟩:=Bi hv hD hlk
 have gD:=Ap gD0
 have hle:Vm D k<=k:=by
  obtain ⟨m,e1,_,_,e4⟩:=hD.2 k hlk
  rw [M3 gD0] at e1
  have:=e4 k (.refl _) (.refl _)
  omega
 have g1:=hH.hx
 have hcl:(VH ky).length=X.length:=by rw [Fg,hkyl]
 (refine Ue @d2 ?_;(repeat clear hK K);repeat refine kq fun K hK=>?_)
 refine Uk ?_
 (refine Ue (an @gD (an @A3 @hDl)) ?_;(repeat clear hK K);repeat refine kq fun K hK=>?_)
 by_cases hek:Vm D k=k
 rotate_left
 ·have d3:((k:Int) == ((Vm D k:Nat):Int))=false:=by simp only [beq_eq_false_iff_ne,ne_eq];omega
  simp only [d3]
  obtain ⟨L,q1,q2⟩:=hkys (Vm D k) (by omega)
  have hko:=q2.cp hv hD hC hlk
  obtain ⟨sb,hsb⟩:∃ b,Is L=Value.string b:=⟨_,rfl⟩
  rw [hsb] at q1
  have gk:(VH ky)[Vm D k]?=some (.v (.string sb)):=by simp [VH,q1]
  refine Ul ?_
  (refine CY (an @g1 (an @hcl (an @gk @Iu))) ?_;(repeat clear hK K);repeat refine kq fun K hK=>?_)
  refine B9 (fun G3=>HS (VQ X D (Q.map Int.ofNat) (VN (Vm D) X.length) dv) ⟨9,1,true,VH (ky.set k (.string sb))⟩ X.length G3 tc vc/\TA X nw Q Q.length G3 tc/\TB X nw Q Q.length G3 vc) ?_ ?_
  ·exact ⟨hH.setK _,hT.set1 _,hTB.set1 _⟩
  rintro G3 ⟨hH3,hT3,hTB3⟩
  simp only
  refine Um ?_
  refine hK _ (k+1,G3,ky.set k (.string sb)) ⟨by simp only;omega,by simp only;rw [List.length_set];exact hkyl,?_,hH3,hT3,hTB3⟩ (by simp only;omega) ?_
  rotate_left
  ·exact Un
  intro s hs
  simp only at hs ⊢
  by_cases e:s=k
  ·subst e
   exact ⟨L,by rw [hsb,gEc (by omega)],hko⟩
  obtain ⟨M,q1,q2⟩:=hkys s (by omega)
  exact ⟨M,by rw [gE5 (Ne.symm e)];exact q1,q2⟩
 rw [hek] at gD ⊢
 have d3:((k:Int) == (k:Int))=true:=by simp
 simp only [d3]
 obtain ⟨j',hj',hQj⟩:=List.getElem_of_mem ((hQ.2.1 k).2 ⟨hlk,hek⟩)
 obtain ⟨x,w,tx1,tx2,tx3,tx4⟩:=hT.2.2 j' k hj' (by rw [gE1 hj',hQj])
 obtain ⟨m,V,ty1,ty2,ty3,ty4⟩:=hTB.2.2 j' k hj' (by rw [gE1 hj',hQj])
 have gW:=Ap (show nw[k]?=some (nw.getD k 0) from by rw [gE2,gE1 (by omega)];rfl)
 have hVl:V.length<=2000:=by
  have h:=Cu (m:=(List.range 1026).map Int.ofNat) ty4.nd (fun e he=>by
   obtain ⟨p,hp,rfl⟩:=List.mem_map.1 he
   obtain ⟨_,_,_,i,hi,ho⟩:=ty4.ob p hp
   have hr3:=RO hv ((ty4.ex p.1 i hi).1 ⟨p,hp,rfl,ho⟩)
   exact List.mem_map.2 ⟨p.1.toNat,by rw [List.mem_range];omega,by simp only [Int.ofNat_eq_natCast];omega⟩)
  rw [List.length_map,List.length_map,List.length_range] at h
  omega
 have hkm:=fun VL h1 h2=>KeyOf.mk2 (VL:=VL) hv hN hn tx4 ty4 h1 h2
 generalize nw.getD k 0=x0 at *
 refine Uk ?_
 (refine Ue (an @gW (an @A3 @hNl)) ?_;(repeat clear hK K);repeat refine kq fun K hK=>?_)
 (refine A9 rfl ?_;intro K1 hK1;refine Cz (f:=59) (ids:=[]) (R:=fun r o=>(∃ VL:List (Int × Nat),Ur (VL.map fun q:Int × Nat=>q.1)/\(∀ q,q∈VL↔∃ p∈V,q=(p.1,p.2.2))/\r=.a (.c (.v (Is (EG x0 w VL)))))/\Pre G o/\o.all BL=true) rfl rfl (by simp only [go_sem]) (by kernel_rfl) (Qv G 5 3 4 X.length k x m w x0 tc vc V hH.h4 hH.h2 hH.h3 hT.1 hTB.1 (by omega) hlk tx1 tx3 tx4.1 ty1 ty3 ty4.nd (fun p hp=>by obtain ⟨_,a2,a3,_⟩:=ty4.ob p hp;exact ⟨a2,a3⟩) hVl hH.ok) (fun r outs h=>GF h.2.2) ?_)
 rintro r G2 ⟨⟨VL,hV1,hV2,rfl⟩,hP2,hok2⟩
 have hko:=hkm VL hV1 hV2
 obtain ⟨L,hL⟩:∃ L,EG x0 w VL=L:=⟨_,rfl⟩
 rw [hL] at hko ⊢
 obtain ⟨sb,hsb⟩:∃ b,Is L=Value.string b:=⟨_,rfl⟩
 rw [hsb]
 (simp only [go_sem];refine hK1 _ ?_;clear hK1 K1)
 have hH2:=hH.pre hP2 hok2
 have g2:=hP2.at g1
 (refine CY (an @g2 (an @hcl @Iu)) ?_;(repeat clear hK K);repeat refine kq fun K hK=>?_)
 refine B9 (fun G3=>HS (VQ X D (Q.map Int.ofNat) (VN (Vm D) X.length) dv) ⟨9,1,true,VH (ky.set k (.string sb))⟩ X.length G3 tc vc/\TA X nw Q Q.length G3 tc/\TB X nw Q Q.length G3 vc) ?_ ?_
 ·exact ⟨hH2.setK _,(hT.pre hP2).set1 _,(hTB.pre hP2).set1 _⟩
 rintro G3 ⟨hH3,hT3,hTB3⟩
 simp only
 refine Um ?_
 refine hK _ (k+1,G3,ky.set k (.string sb)) ⟨by simp only;omega,by simp only;rw [List.length_set];exact hkyl,?_,hH3,hT3,hTB3⟩ (by simp only;omega) ?_
 rotate_left
 ·exact Un
 intro s hs
 simp only at hs ⊢
 by_cases e:s=k
 ·subst e
  exact ⟨L,by rw [hsb,gEc (by omega)],hko⟩
 obtain ⟨M,q1,q2⟩:=hkys s (by omega)
 exact ⟨M,by rw [gE5 (Ne.symm e)];exact q1,q2⟩
theorem WkC.uniq {R:List (List Ar)} {c d:List Int} (h1:WkC R c) (h2:WkC R d):c=d:=by
 obtain ⟨B,b1,b2⟩:=h1
 obtain ⟨B',b3,b4⟩:=h2
 have e:=b1.uniq b3
 subst e
 exact b2.uniq b4
theorem WN {A R:List (List Ar)} (hA:Bg A=true) (hv:Bg R=true) (hn:A.length+R.length<=100) (ht:BP A+BP R<=1000):Bg (Dy A R)=true:=M4 (.inr hA) hv (by show A.length+R.length<=16384;omega) (by show BP A+BP R<=262144;omega)
theorem X3 {c:List Int} {i:Nat} (h:i<c.length):(Af c)[i]?=some (.v (.int .i64 (c.getD i 0))):=Ap (by rw [gE2,gE1 h];rfl)
set_option maxHeartbeats 2000000 in
theorem RQ (R:List (List Ar)) (hv:Bg R=true) (hn:R.length<=64) (hr:∀ r∈R,r.length<=1000000):FC Tryd.prog 20 [BS R] [] (fun r o=>∃ c,WkC R c/\Nrm R.length c/\o=[]/\r=AK c):=by
 refine A8 Tryd.func20 rfl (by rw [Tryd.ntmps20];simp) ?_
 rw [Tryd.ntmps20]
 simp only [Bs,BS]
 have hlo:Br R=true:=gEg (gE4 hv).1
 have hbL:JM [R]=R:=NV R
 (refine Ud ?_;(repeat clear hK K);repeat refine kq fun K hK=>?_)
 (refine Ui (CC R (by omega) (fun r h=>by have:=hr r h;omega)) ?_;intro K1 hK1)
 rintro _ _ ⟨rfl,rfl⟩
 (refine Uj ?_;clear hK1 K1)
 rw [hv]
 (refine Ue @Bool.not_true ?_;(repeat clear hK K);repeat refine kq fun K hK=>?_)
 refine Ul ?_
 (refine Ud ?_;(repeat clear hK K);repeat refine kq fun K hK=>?_)
 have hf:(if 1<=(VR [R]).length then C.t 1 ((VR [R]).take 1) else C.u)=C.t 1 (VR [R]):=rfl
 (refine B3 (Bh (r:=⟨24,1,true,[.t 1 (Ae R)]⟩) 1 (VR [R]) rfl ⟨.inl rfl,trivial⟩ (show 0<(1:Nat) by omega)) ?_;simp only [ST.frz,A0.frz,AV.frz,C.frz,Nat.le_refl,List.set_cons_zero,List.set_cons_succ,go_sem,hf])
 have hns:=Qs [R] (by simp) (by simp) (by simpa using hv) (by simpa using hr) (by have:=(gE4 hlo).2.1;simpa using this) (by have:=(gE4 hlo).2.2.1;simpa using this)
 rw [hbL] at hns
 (refine Ui hns ?_;intro K1 hK1)
 rintro _ _ ⟨rfl,D,Q,B,_,hD,hB,hQ,rfl⟩
 simp only [VQ]
 (refine Uj ?_;clear hK1 K1)
 (refine Ud ?_;(repeat clear hK K);repeat refine kq fun K hK=>?_)
 (refine A9 rfl ?_;intro K1 hK1;refine As (ids:=[]) [2] (Qy R D Q B hv hn hr hD hQ hB) rfl rfl (by simp only [go_sem]) (by first | assumption | kernel_rfl) rfl rfl (by (simp only [List.map_append,List.append_nil,go_sem]) <;> rfl) (by (simp only [Tx,VQ,go_sem]) <;> rfl) ?_ ?_)
 ·rintro _ _ ⟨c,_,_,rfl,rfl⟩;rfl
 rintro _ _ ⟨c,hc,hN,rfl,rfl⟩
 simp only [VQ]
 (refine Uj ?_;clear hK1 K1)
 (refine Ud ?_;(repeat clear hK K);repeat refine kq fun K hK=>?_)
 ((try refine AU ?_);(try simp only [Ai,AX]);refine BQ (Ad [] rfl rfl) ?_;(try simp only [List.set_nil,List.take_nil,List.take_zero,List.map_append,go_sem]);((try refine AU ?_);(try refine Ab ?_);(try simp only [Ai,AX]);refine C6 (by first | exact .inl rfl | exact .inr rfl) rfl ?_;simp only [TC,GQ,FD,Hb,Tryd.results20,go_sem,true_and,and_true,AK]))
 exact ⟨c,hc,hN,rfl⟩
noncomputable def EqW (A R:List (List Ar)):Bool:=@decide (Bg A=true/\Bg R=true/\∃ c,WkC (Dy A R) c/\c.getD 0 0=c.getD A.length 0) (Classical.propDecidable _)
theorem EqW.of {A R:List (List Ar)} (hA:Bg A=true) (hv:Bg R=true) {c:List Int} (hc:WkC (Dy A R) c):decide (c.getD 0 0=c.getD A.length 0)=EqW A R:=by
 by_cases h:c.getD 0 0=c.getD A.length 0
 ·rw [gEg h]
  exact (@decide_eq_true _ (Classical.propDecidable _) ⟨hA,hv,c,hc,h⟩).symm
 rw [decide_eq_false h]
 refine (@decide_eq_false _ (Classical.propDecidable _) ?_).symm
 rintro ⟨_,_,d,hd,q⟩
 obtain rfl:=hc.uniq hd
 exact h q
set_option maxHeartbeats 4000000 in
theorem Yz (A R:List (List Ar)) (hA:Bg A=true) (hv:Bg R=true) (hn:A.length+R.length<=64) (ht:BP A+BP R<=1000) (hrA:∀ r∈A,r.length<=1000000) (hr:∀ r∈R,r.length<=1000000):FC Tryd.prog 14 [BS A,BS R] [] (fun r o=>o=[]/\r=.b (EqW A R)):=by
 refine A8 Tryd.func14 rfl (by rw [Tryd.ntmps14];simp) ?_
 rw [Tryd.ntmps14]
 simp only [Bs,BS]
 have hlA:Br A=true:=gEg (gE4 hA).1
 have hz:=WN hA hv (by omega) ht
 have hzn:(Dy A R).length<=64:=by rw [C1];exact hn
 have hzr:=Yg hrA hr
 have hA1:1<=A.length:=(gE4 hlA).1
 have hR1:1<=R.length:=(gE4 (gEg (gE4 hv).1:Br R=true)).1
 have hbL:JM [A,R]=Dy A R:=by show Dy (Dy [] A) R=_;rw [NV]
 (refine Ud ?_;(repeat clear hK K);repeat refine kq fun K hK=>?_)
 (refine Ui (CC A (by omega) (fun r h=>by have:=hrA r h;omega)) ?_;intro K1 hK1)
 rintro _ _ ⟨rfl,rfl⟩
 (refine Uj ?_;clear hK1 K1)
 rw [hA]
 (refine Ue @Bool.not_true ?_;(repeat clear hK K);repeat refine kq fun K hK=>?_)
 (refine Dm rfl rfl (by simp only [go_sem] <;> rfl) ?_;intro K1 hK1;refine (Bu (ids:=[]) (CC R (by omega) (fun r h=>by have:=hr r h;omega)) rfl rfl (by simp only [go_sem]) (by kernel_rfl) (by (simp only [List.append_nil,go_sem]) <;> rfl) ?_).stp)
 rintro _ _ ⟨rfl,rfl⟩
 (refine Uj ?_;clear hK1 K1)
 rw [hv]
 (refine Ue @Bool.not_true ?_;(repeat clear hK K);repeat refine kq fun K hK=>?_)
 refine Ul ?_
 (refine Ud ?_;(repeat clear hK K);repeat refine kq fun K hK=>?_)
 have hf:(if 2<=(VR [A,R]).length then C.t 1 ((VR [A,R]).take 2) else C.u)=C.t 1 (VR [A,R]):=rfl
 (refine B3 (Bh (r:=⟨24,1,true,[.t 1 (Ae A),.t 1 (Ae R)]⟩) 2 (VR [A,R]) rfl ⟨.inl rfl,.inl rfl,trivial⟩ (show 0<(1:Nat) by omega)) ?_;simp only [ST.frz,A0.frz,AV.frz,C.frz,Nat.le_refl,List.set_cons_zero,List.set_cons_succ,go_sem,hf])
 have hns:=Qs [A,R] (by simp) (by simp) (by simp [hA,hv]) (by simp only [List.mem_cons,List.not_mem_nil,or_false,forall_eq_or_imp,forall_eq];exact ⟨hrA,hr⟩) (by show A.length+(R.length+0)<=16384;omega) (by show BP A+(BP R+0)<=262144;omega)
 rw [hbL] at hns
 (refine Ui hns ?_;intro K1 hK1)
 rintro _ _ ⟨rfl,D,Q,B,_,hD,hB,hQ,rfl⟩
 simp only [VQ]
 (refine Uj ?_;clear hK1 K1)
 (refine Ud ?_;(repeat clear hK K);repeat refine kq fun K hK=>?_)
 (refine A9 rfl ?_;intro K1 hK1;refine As (ids:=[]) [3] (Qy (Dy A R) D Q B hz hzn hzr hD hQ hB) rfl rfl (by simp only [go_sem]) (by first | assumption | kernel_rfl) rfl rfl (by (simp only [List.map_append,List.append_nil,go_sem]) <;> rfl) (by (simp only [Tx,VQ,go_sem]) <;> rfl) ?_ ?_)
 ·rintro _ _ ⟨c,_,_,rfl,rfl⟩;rfl
 rintro _ _ ⟨c,hc,hN,rfl,rfl⟩
 have hcl:c.length=A.length+R.length:=by rw [hN.len,C1]
 simp only [VQ]
 (refine Uj ?_;clear hK1 K1)
 (refine Ud ?_;(repeat clear hK K);repeat refine kq fun K hK=>?_)
 (refine Ag 10 [(0,0),(1,0),(2,1),(3,0),(4,0),(5,1),(6,0),(7,0),(8,1),(9,0),(10,2)] (by kernel_rfl) (by kernel_rfl) (by intro c st h;simp [Ai,AX,Tz] at h) ?_)
 (refine Ua (an @Int.toNat_zero (an @A6 (an @A3 (an (X3 (c:=c) (i:=0) (by omega)) (X3 (c:=c) (i:=A.length) (by omega)))))) ?_;repeat clear hK K)
 have he:(c.getD 0 0 == c.getD A.length 0)=EqW A R:=EqW.of hA hv hc
 simp only [he]
 exact Re [] Tryd.results14
theorem Xv (S:List (List Ar)) (c:List Int):∀ k,V0 S (UZ S c) k=V0 S c (k+1)
 | 0=>rfl
 | k+1=>by rw [V0,Xv S c k];rfl
theorem YA (S:List (List Ar)):∀ (m:Nat) (c:List Int),Nrm S.length c->S.length<=Ew S.length c+m->∃ k,UZ S (V0 S c k)=V0 S c k:=by
 intro m
 induction m with
 | zero=>
  intro c hN hm
  refine ⟨0,?_⟩
  by_cases e:UZ S c=c
  ·exact e
  have h1:=Sr hN e
  have h2:=OU S.length (UZ S c)
  omega
 | succ m ih=>
  intro c hN hm
  by_cases e:UZ S c=c
  ·exact ⟨0,e⟩
  have h1:=Sr hN e
  obtain ⟨k,hk⟩:=ih (UZ S c) (Ro S c) (by omega)
  rw [Xv] at hk
  exact ⟨k+1,hk⟩
theorem WkC.ex {R:List (List Ar)} (hv:Bg R=true) (hn:R.length<=100):∃ c,WkC R c:=by
 have hl:=(GA hv hn).1
 have h1:1<=R.length:=(gE4 hv).1.1
 obtain ⟨B,hB⟩:∃ B,DvL R B:=by
  refine ⟨(List.range R.length).map fun s=>@decide (Dv R s) (Classical.propDecidable _),by simp,fun s hs=>?_⟩
  rw [gE2,List.getElem?_map,List.getElem?_range hs]
  exact @decide_eq_true_iff _ (Classical.propDecidable _)
 obtain ⟨k,hk⟩:=YA (BE R) R.length (Vb B R.length) (by rw [hl];exact PX _ h1) (by omega)
 exact ⟨_,B,hB,k,rfl,hk⟩
theorem EqW.yes {A R:List (List Ar)} (hA:Bg A=true) (hv:Bg R=true) (hn:A.length+R.length<=100) (ht:BP A+BP R<=1000) (h:∀ d,WkC (Dy A R) d->d.getD 0 0=d.getD A.length 0):EqW A R=true:=by
 obtain ⟨d,hd⟩:=WkC.ex (WN hA hv hn ht) (by rw [C1];exact hn)
 exact @decide_eq_true _ (Classical.propDecidable _) ⟨hA,hv,d,hd,h d hd⟩
def AnW {α:Type} (A:List (List Ar)) (kA:Nat->α) (B:List (List Ar)) (kB:Nat->α) (s t:Nat):Prop:=
 (Dv A s->Dv B t)/\∀ e u,WA A s e u->∃ v,WA B t e v/\kB v=kA u
section
variable {α : Type} {A B C : List (List Ar)} {kA kB kC : Nat -> α} {s t r : Nat}
theorem AnW.trans (h1 : AnW A kA B kB s t) (h2 : AnW B kB C kC t r) : AnW A kA C kC s r :=
 ⟨fun d => h2.1 (h1.1 d), fun e u w => by
  obtain ⟨v, w2, e2⟩ := h1.2 e u w
  obtain ⟨x, w3, e3⟩ := h2.2 e v w2
  exact ⟨x, w3, e3.trans e2⟩⟩
theorem MtW.of (hA:Bg A=true) (hB:Bg B=true) (h:∀ s t,s<A.length->t<B.length->kA s=kB t->AnW A kA B kB s t):MtW A kA B kB:=by
 intro s t hs ht e
 obtain ⟨h1,h2⟩:=h s t hs ht e
 refine ⟨h1,fun a ha=>?_⟩
 obtain ⟨u,hu,hw,e1⟩:=(Cj hA hs).1 ha
 obtain ⟨v,hv,e2⟩:=h2 _ _ hw
 exact ⟨(a.1,(v:Int)),(Cj hB ht).2 ⟨v,hv.lt hB ht,hv,rfl⟩,rfl,by rw [e1];simpa using e2⟩
theorem MtW.an (h:MtW A kA B kB) (hA:Bg A=true) (hB:Bg B=true) (hs:s<A.length) (ht:t<B.length) (e:kA s=kB t):AnW A kA B kB s t:=by
 obtain ⟨h1,h2⟩:=h s t hs ht e
 refine ⟨h1,fun x u hw=>?_⟩
 obtain ⟨b,hb,e1,e2⟩:=h2 (x,(u:Int)) ((Cj hA hs).2 ⟨u,hw.lt hA hs,hw,rfl⟩)
 obtain ⟨v,_,hv,e3⟩:=(Cj hB ht).1 hb
 simp only at e1 e2
 rw [e1] at hv
 exact ⟨v,hv,by rw [e3] at e2;simpa using e2⟩
end
/-! A canonical form. -/
structure CnX (Y X:List (List Ar)) (o:Nat->Nat):Prop where
 z:0<X.length
 o0:o 0=0
 bd:∀ j,j<X.length->o j<Y.length
 inj:∀ i j,i<X.length->j<X.length->o i=o j->i=j
 up:∀ j (a:Ar),j<X.length->a∈Y.getD (o j) []->∃ i:Nat,i<X.length/\(a.1,(i:Int))∈X.getD j []/\o i=a.2.toNat
 dn:∀ j (a:Ar),j<X.length->a∈X.getD j []->∃ i:Nat,i<X.length/\a.2=(i:Int)/\(a.1,(o i:Int))∈Y.getD (o j) []
theorem YJ {Y:List (List Ar)} (hY:Br Y=true):CnX Y (CG Y).1 (WT Y):=by
 obtain ⟨h1,_,_,h4⟩:=gE4 hY
 obtain ⟨c1,c2,c3,c4,c5,c6⟩:=X8 h1 fun r hr a ha=>by have:=h4 r hr a ha;exact ⟨this.2.2.1,this.2.2.2⟩
 exact ⟨c1,c2,c3,c4,c5,c6⟩
theorem YM {E F:Nat->List Nat} (h:∀ s w,w∈E s↔w∈F s) {u v:Nat}:Rc E u v↔Rc F u v:=by
 constructor
 ·intro q
  induction q with
  | refl=>exact .refl _
  | tail _ hw ih=>exact ih.tail ((h _ _).1 hw)
 intro q
 induction q with
 | refl=>exact .refl _
 | tail _ hw ih=>exact ih.tail ((h _ _).2 hw)
section
variable {X Y : List (List Ar)} {o : Nat -> Nat}
theorem CnX.rdn (h:CnX Y X o) (hX:Bg X=true) (hY:Bg Y=true) {j i:Nat} (hj:j<X.length) (hr:Rc (Uy true X) j i):i<X.length/\Rc (Uy true Y) (o j) (o i):=by
 induction hr with
 | refl=>exact ⟨hj,.refl _⟩
 | @tail v w _ hw ih=>
  obtain ⟨i1,i2⟩:=ih
  obtain ⟨i,q1,q2,q3⟩:=h.dn _ _ i1 ((Ff hX).1 hw)
  have:i=w:=by simp only at q2;exact (Int.ofNat.inj q2).symm
  subst this
  exact ⟨q1,i2.tail ((Ff hY).2 q3)⟩
theorem CnX.rup (h:CnX Y X o) (hX:Bg X=true) (hY:Bg Y=true) {j u:Nat} (hj:j<X.length) (hr:Rc (Uy true Y) (o j) u):∃ i,i<X.length/\o i=u/\Rc (Uy true X) j i:=by
 induction hr with
 | refl=>exact ⟨j,hj,rfl,.refl _⟩
 | tail _ hw ih=>
  obtain ⟨i,i1,i2,i3⟩:=ih
  subst i2
  obtain ⟨k,q1,q2,q3⟩:=h.up i _ i1 ((Ff hY).1 hw)
  exact ⟨k,q1,by simpa using q3,i3.tail ((Ff hX).2 q2)⟩
theorem CnX.andn {α:Type} (h:CnX Y X o) (hX:Bg X=true) (hY:Bg Y=true) (k:Nat->α) {j:Nat} (hj:j<X.length):AnW X (fun i=>k (o i)) Y k j (o j):=by
 refine ⟨fun ⟨g,hg,w,hw,hwg⟩=>?_,fun e u hw=>?_⟩
 ·obtain ⟨a1,a2⟩:=h.rdn hX hY hj hg
  obtain ⟨i,q1,q2,q3⟩:=h.dn _ _ a1 ((Ff hX).1 hw)
  have:i=w:=by simp only at q2;exact (Int.ofNat.inj q2).symm
  subst this
  exact ⟨_,a2,_,(Ff hY).2 q3,(h.rdn hX hY q1 hwg).2⟩
 rcases hw with ⟨h0,hr⟩ | ⟨h0,p,hp,a,ha,h1,h2⟩
 ·exact ⟨o u,.inl ⟨h0,(h.rdn hX hY hj hr).2⟩,rfl⟩
 obtain ⟨a1,a2⟩:=h.rdn hX hY hj hp
 obtain ⟨i,q1,q2,q3⟩:=h.dn _ _ a1 ha
 rw [q2] at h2
 simp only [Int.toNat_natCast] at h2
 exact ⟨o u,.inr ⟨h0,_,a2,_,q3,h1,by simpa using (h.rdn hX hY q1 h2).2⟩,rfl⟩
theorem CnX.anup {α:Type} (h:CnX Y X o) (hX:Bg X=true) (hY:Bg Y=true) (k:Nat->α) {j:Nat} (hj:j<X.length):AnW Y k X (fun i=>k (o i)) (o j) j:=by
 refine ⟨fun ⟨g,hg,w,hw,hwg⟩=>?_,fun e u hw=>?_⟩
 ·obtain ⟨i,a1,rfl,a3⟩:=h.rup hX hY hj hg
  obtain ⟨l,q1,q2,q3⟩:=h.up i _ a1 ((Ff hY).1 hw)
  simp only [Int.toNat_natCast] at q3
  subst q3
  obtain ⟨i2,b1,b2,b3⟩:=h.rup hX hY q1 hwg
  obtain rfl:=h.inj _ _ b1 a1 b2
  exact ⟨_,a3,_,(Ff hX).2 q2,b3⟩
 rcases hw with ⟨h0,hr⟩ | ⟨h0,p,hp,a,ha,h1,h2⟩
 ·obtain ⟨i,a1,rfl,a3⟩:=h.rup hX hY hj hr
  exact ⟨i,.inl ⟨h0,a3⟩,rfl⟩
 obtain ⟨i,a1,rfl,a3⟩:=h.rup hX hY hj hp
 obtain ⟨l,q1,q2,q3⟩:=h.up i _ a1 ha
 rw [<- q3] at h2
 obtain ⟨i2,b1,rfl,b3⟩:=h.rup hX hY q1 h2
 exact ⟨i2,.inr ⟨h0,_,a3,_,q2,h1,by simpa using b3⟩,rfl⟩
end
/-! What stands for all states that a canonical form keeps. -/
section
variable {α : Type} {A B C : List (List Ar)} {kA kB kC : Nat -> α} {s t r : Nat}
end
theorem YB {α:Type} {A R:List (List Ar)} {kA kR:Nat->α} (hA:Bg A=true) (hR:Bg R=true) (hn:A.length+R.length<=100) (ht:BP A+BP R<=1000) (h1:MtW A kA A kA) (h2:MtW A kA R kR) (h3:MtW R kR A kA) (h4:MtW R kR R kR) (h0:kA 0=kR 0):EqW A R=true:=by
 have hA1:1<=A.length:=(gE4 hA).1.1
 have hR1:1<=R.length:=(gE4 hR).1.1
 refine EqW.yes hA hR hn ht fun d hd=>?_
 have hz:=WN hA hR hn ht
 have hb:=MtW.both hA hR hn hz h1 h2 h3 h4
 refine hb.le hz (by rw [C1];exact hn) hd (by rw [C1];omega) (by rw [C1];omega) ?_
 unfold YV
 rw [if_pos (show 0<A.length by omega),if_neg (by omega),Nat.sub_self,h0]
theorem Yh {R:List (List Ar)} {c:List Int} {B:List Bool} (hv:Bg R=true) (hn:R.length<=50) (ht:BP R<=500) (hk0:MtW R (fun s=>c.getD s 0) R (fun s=>c.getD s 0)) (hC:WR c R.length=true) (hB:DvL R B):∃ X,X=(CG (qR R c B)).1/\Bg X=true/\X.length<=R.length/\BP X<=BP R+R.length/\∃ f kX:Nat->Nat,MtW R f R f/\MtW R f X kX/\MtW X kX R f/\MtW X kX X kX/\f 0=kX 0:=by
 have hlo:Br R=true:=gEg (gE4 hv).1
 obtain ⟨b1,b2,b3⟩:=XK (B:=B) hlo hC
 have hn1:1<=R.length:=(gE4 hlo).1
 have hno:=Wy hC
 have hm1:1<=YT c:=by have:=(hno.2.2.1 0 hn1).1;omega
 have hlq:Br (qR R c B)=true:=gEg ⟨by omega,by show (qR R c B).length<=16384;omega,by show BP (qR R c B)<=262144;omega,b2⟩
 have hq:=YO hv hC hB
 have hX:=Wk hlq
 have htX:=Wm hlq
 have hlX:=(Wu (R:=qR R c B) (B:=BP (qR R c B)) (by omega) (fun r hr a ha=>by have:=b2 r hr a ha;exact ⟨this.2.2.1,this.2.2.2⟩) (fun r hr=>Wo r hr)).1
 obtain ⟨a1,a2,_⟩:=X8 (Q:=qR R c B) (by omega) (fun r hr a ha=>by have:=b2 r hr a ha;exact ⟨this.2.2.1,this.2.2.2⟩)
 have hf0:=XR hC hn1
 generalize WT (qR R c B)=kX at *
 generalize (CG (qR R c B)).1=X at *
 have hcl:∀ s,s<R.length->c.getD s 0=(YS c s:Int):=fun s hs=>by rw [gE2,(hno.2.2.1 s hs).2];rfl
 have hk:MtW R (YS c) R (YS c):=fun s t hs ht e=>by
  obtain ⟨q1,q2⟩:=hk0 s t hs ht (by simp only;rw [hcl s hs,hcl t ht,e])
  refine ⟨q1,fun a ha=>?_⟩
  obtain ⟨b,hb,e1,e2⟩:=q2 a ha
  refine ⟨b,hb,e1,?_⟩
  have e3:c.getD b.2.toNat 0=c.getD a.2.toNat 0:=e2
  unfold YS
  rw [e3]
 exact ⟨X,rfl,hX,by omega,by omega,YS c,kX,hk,hq.mt1W hv hX,hq.mt2W hv hX hk,hq.mt3W,by rw [a2,hf0]⟩
theorem XS {R:List (List Ar)} {c:List Int} {B:List Bool} (hv:Bg R=true) (hn:R.length<=50) (ht:BP R<=500) (hc:WkC R c) (hN:Nrm R.length c) (hB:DvL R B):∃ X,X=(CG (qR R c B)).1/\Bg X=true/\X.length<=R.length/\BP X<=BP R+R.length/\∃ f kX:Nat->Nat,MtW R f R f/\MtW R f X kX/\MtW X kX R f/\MtW X kX X kX/\f 0=kX 0:=Yh hv hn ht (WkC.key hv (by omega) hc) hN.num hB
end Go.Proofs.YtjijjfkalheokaaDoor
namespace Go.Proofs.YtjijjfkalheokaaDoor
set_option linter.unusedVariables false
set_option linter.unusedSimpArgs false
open Go.RowKit
set_option maxRecDepth 100000

def Xw:List (List Ar):=[[],[(2,3)],[(2,3),(2,4),(3,4)],[(3,2),(4,2)],[(4,5)],[(2,4),(3,4),(3,5)]]
theorem XT (T:List Int) (hT:TpOk T) (a:Nat) (ha:a<=100000000):FC Tryd.prog 11 [.a (.c (.p 0 0))] [tape T a] (fun r o=>o=[tape T (a+1)]/\∃ L∈Xw,r=CH L):=by
 refine A8 Tryd.func11 rfl (by rw [Tryd.ntmps11];simp) ?_
 rw [Tryd.ntmps11]
 simp only [Bs,tape]
 (refine Ue (an @List.set_cons_zero.{0} @List.set_cons_succ.{0}) ?_;(repeat clear hK K);repeat refine kq fun K hK=>?_)
 (refine A9 rfl ?_;intro K1 hK1;refine ct [0] (Wz T a 6 hT (by omega) (by omega)) ?_ ?_)
 ·rintro _ _ ⟨rfl,v,rfl,_⟩;rfl
 rintro _ _ ⟨rfl,v,rfl,hv⟩
 (simp only [AK,CB,tape,List.append_nil,List.nil_append,List.length_map,go_sem];refine hK1 _ ?_;clear hK1 K1)
 (refine Ud ?_;(repeat clear hK K);repeat refine kq fun K hK=>?_)
 rcases (show v=0\/v=1\/v=2\/v=3\/v=4\/v=5 by omega) with rfl | rfl | rfl | rfl | rfl | rfl
 ·(refine Ud ?_;(repeat clear hK K);repeat refine kq fun K hK=>?_)
  refine B1 (Y9 2 2 rfl) ?_
  refine Uo [0] Tryd.results11 ?_
  exact ⟨[],by decide,by simp [CH,Al]⟩
 ·(refine Ud ?_;(repeat clear hK K);repeat refine kq fun K hK=>?_)
  ((try refine AU ?_);(try simp only [Ai,AX]);refine BQ (Bh (r:=⟨52,2,true,Ao [(2,3)]⟩) 1 (Al [(2,3)]) rfl (Dp _) (show 0<(2:Nat) by omega)) ?_;refine BQ (Ad [0] rfl rfl) ?_;simp only [ST.frz,A0.frz,AV.frz,C.frz,Nat.le_refl,List.set_cons_zero,List.set_cons_succ,go_sem,A4,List.length_cons,List.length_nil];(try simp only [List.set_nil,List.take_nil,List.take_zero,List.map_append,go_sem]);((try refine AU ?_);(try refine Ab ?_);(try simp only [Ai,AX]);refine C6 (by first | exact .inl rfl | exact .inr rfl) rfl ?_;simp only [TC,GQ,FD,Hb,Tryd.results11,go_sem,true_and,and_true,A4,List.length_cons,List.length_nil]))
  exact ⟨[(2,3)],by decide,rfl⟩
 ·(refine Ud ?_;(repeat clear hK K);repeat refine kq fun K hK=>?_)
  ((try refine AU ?_);(try simp only [Ai,AX]);refine BQ (Bh (r:=⟨52,2,true,Ao [(2,3),(2,4),(3,4)]⟩) 2 (Al [(2,3),(2,4),(3,4)]) rfl (Dp _) (show 0<(2:Nat) by omega)) ?_;refine BQ (Ad [0] rfl rfl) ?_;simp only [ST.frz,A0.frz,AV.frz,C.frz,Nat.le_refl,List.set_cons_zero,List.set_cons_succ,go_sem,A4,List.length_cons,List.length_nil];(try simp only [List.set_nil,List.take_nil,List.take_zero,List.map_append,go_sem]);((try refine AU ?_);(try refine Ab ?_);(try simp only [Ai,AX]);refine C6 (by first | exact .inl rfl | exact .inr rfl) rfl ?_;simp only [TC,GQ,FD,Hb,Tryd.results11,go_sem,true_and,and_true,A4,List.length_cons,List.length_nil]))
  exact ⟨[(2,3),(2,4),(3,4)],by decide,rfl⟩
 ·(refine Ud ?_;(repeat clear hK K);repeat refine kq fun K hK=>?_)
  ((try refine AU ?_);(try simp only [Ai,AX]);refine BQ (Bh (r:=⟨52,2,true,Ao [(3,2),(4,2)]⟩) 3 (Al [(3,2),(4,2)]) rfl (Dp _) (show 0<(2:Nat) by omega)) ?_;refine BQ (Ad [0] rfl rfl) ?_;simp only [ST.frz,A0.frz,AV.frz,C.frz,Nat.le_refl,List.set_cons_zero,List.set_cons_succ,go_sem,A4,List.length_cons,List.length_nil];(try simp only [List.set_nil,List.take_nil,List.take_zero,List.map_append,go_sem]);((try refine AU ?_);(try refine Ab ?_);(try simp only [Ai,AX]);refine C6 (by first | exact .inl rfl | exact .inr rfl) rfl ?_;simp only [TC,GQ,FD,Hb,Tryd.results11,go_sem,true_and,and_true,A4,List.length_cons,List.length_nil]))
  exact ⟨[(3,2),(4,2)],by decide,rfl⟩
 ·(refine Ud ?_;(repeat clear hK K);repeat refine kq fun K hK=>?_)
  ((try refine AU ?_);(try simp only [Ai,AX]);refine BQ (Bh (r:=⟨52,2,true,Ao [(4,5)]⟩) 4 (Al [(4,5)]) rfl (Dp _) (show 0<(2:Nat) by omega)) ?_;refine BQ (Ad [0] rfl rfl) ?_;simp only [ST.frz,A0.frz,AV.frz,C.frz,Nat.le_refl,List.set_cons_zero,List.set_cons_succ,go_sem,A4,List.length_cons,List.length_nil];(try simp only [List.set_nil,List.take_nil,List.take_zero,List.map_append,go_sem]);((try refine AU ?_);(try refine Ab ?_);(try simp only [Ai,AX]);refine C6 (by first | exact .inl rfl | exact .inr rfl) rfl ?_;simp only [TC,GQ,FD,Hb,Tryd.results11,go_sem,true_and,and_true,A4,List.length_cons,List.length_nil]))
  exact ⟨[(4,5)],by decide,rfl⟩
 (refine Ud ?_;(repeat clear hK K);repeat refine kq fun K hK=>?_)
 ((try refine AU ?_);(try simp only [Ai,AX]);refine BQ (Bh (r:=⟨52,2,true,Ao [(2,4),(3,4),(3,5)]⟩) 5 (Al [(2,4),(3,4),(3,5)]) rfl (Dp _) (show 0<(2:Nat) by omega)) ?_;refine BQ (Ad [0] rfl rfl) ?_;simp only [ST.frz,A0.frz,AV.frz,C.frz,Nat.le_refl,List.set_cons_zero,List.set_cons_succ,go_sem,A4,List.length_cons,List.length_nil];(try simp only [List.set_nil,List.take_nil,List.take_zero,List.map_append,go_sem]);((try refine AU ?_);(try refine Ab ?_);(try simp only [Ai,AX]);refine C6 (by first | exact .inl rfl | exact .inr rfl) rfl ?_;simp only [TC,GQ,FD,Hb,Tryd.results11,go_sem,true_and,and_true,A4,List.length_cons,List.length_nil]))
 exact ⟨[(2,4),(3,4),(3,5)],by decide,rfl⟩
structure Cstep where
 k:Int
 s:List Int
 m:List Ar
 o:List Ar
 R:List (List Ar)
def Cstep.cells (x:Cstep):List C:=[.v (.int .i64 x.k),.t 1 (Af x.s),.t 2 (Al x.m),.t 2 (Al x.o),.t 1 (Ae x.R)]
def Da (x:Int):Bool:=decide (x>=2) && decide (x<=1025)
attribute [local go_sem] List.set_cons_zero List.set_cons_succ List.map_cons List.map_nil List.take_succ_cons List.take_zero List.drop_zero List.drop_succ_cons C.pl C.one List.all_cons List.all_nil Bool.and_true
theorem CU {x:Int}:Da x=true↔D8 x:=by simp [Da,D8]
theorem JN {x:Int}:Da x=false↔¬ D8 x:=by rw [<- CU];simp
theorem Oy {P:Program} {o:Oper} {st:ST} {K:ST->Prop} {t:TypeId} {x l u:Operand} {k i j:Nat} {cs:List Tr} {kk kk':IntKind} (hd:Tn o st.n=true) (ho:o.op=.slice t x (some l) (some u) none) (hz:DB P t=some k) (hx:st.ev x=.a (.c (.t k cs))) (hl:st.ev l=.a (.c (.v (.int kk (i:Int))))) (hu:st.ev u=.a (.c (.v (.int kk' (j:Int)))))
  (hk:0<k) (hij:i<=j) (hj:j*k<=cs.length) (h:K (st.put o.dst (.a (.c (.t k ((cs.drop (i*k)).take ((j - i)*k))))))):Stp P o st K:=by
 intro M0 w0 a w N Q hR hN
 obtain ⟨g,⟨hp1,hp2⟩,hR⟩:=hR
 have e1:=hR.ev x
 have e2:=hR.ev l
 have e3:=hR.ev u
 rw [hx] at e1
 rw [hl] at e2
 rw [hu] at e3
 have e2:a.eval l=.int kk (i:Int):=e2
 have e3:a.eval u=.int kk' (j:Int):=e3
 obtain ⟨A,n,cp,f1,f2,f3⟩:=Rd.form (show Rd _ _ _ _ from e1)
 have hjn:j<=n:=Nat.le_of_mul_le_mul_right (by rw [<- f2];exact hj) hk
 rw [f1] at e1
 have hcut:=Rd.cut (show Rd _ _ _ _ from e1) hk hij hj
 obtain ⟨e,h2,h4,h3⟩:=Cn hz
 have hrun:(execOp a.eval o).run P w=.ok (.value (.slice (KG A cp i k) (j - i) (cp - i))) w:=by
  simp only [execOp,ho,Option.map_some,Option.map_none,f1,e2,e3,Sem.run_bind,Co h2]
  rw [run_slice_lh w t _ _ _ (by rw [h4];exact h2) _ _ (i:Int) (j:Int) (by omega) (by omega) (by omega),h4,h3]
  simp [sliced,Result.andThen,KG]
 unfold Oper.wp
 rw [hrun]
 exact hN _ _ _ h ⟨g,⟨by cases o.dst <;> exact hp1,by cases o.dst <;> exact hp2⟩,hR.put (Ay hd) hcut⟩
theorem Wi (x:Int):Da x=(decide (x>=2) && decide (x<=1025)):=rfl
theorem GN (x:Int):FC Tryd.prog 51 [.i x] [] (fun r o=>o=[]/\r=.b (Da x)):=by
 refine A8 Tryd.func51 rfl (by rw [Tryd.ntmps51];simp) ?_
 rw [Tryd.ntmps51]
 simp only [Bs]
 by_cases h1:x>=2
 ·have e1:decide (x>=2)=true:=by simpa using h1
  (refine Ue @e1 ?_;(repeat clear hK K);repeat refine kq fun K hK=>?_)
  exact Rf [] Tryd.results51 (an @Wi (an @e1 @Bool.true_and))
 have e1:decide (x>=2)=false:=by simpa using h1
 (refine Ue @e1 ?_;(repeat clear hK K);repeat refine kq fun K hK=>?_)
 exact Rf [] Tryd.results51 (an @Wi (an @e1 @Bool.false_and))
def FstP (o:List Ar) (x:Ar) (n:Nat):Prop:=n<=o.length/\(∀ i a,i<n->o[i]?=some a->Ut a x=true)/\∀ i a,n<=i->o[i]?=some a->Ut a x=false
theorem FstP.mem {o:List Ar} {x:Ar} {n:Nat} (h:FstP o x n) (hs:SortA o):x∈o↔o[n]?=some x:=by
 constructor
 rotate_left
 ·exact fun hm=>gE9 hm
 intro hm
 obtain ⟨i,hi⟩:=List.mem_iff_getElem?.1 hm
 rcases Nat.lt_trichotomy i n with h1 | h1 | h1
 ·have:=h.2.1 i x h1 hi
  rw [E3] at this;cases this
 ·rw [<- h1];exact hi
 have hl:=(List.getElem?_eq_some_iff.1 hi).1
 have hg:=gE1 (show n<o.length by omega)
 have h2:=hs.at h1 hg hi
 have h3:=h.2.2 n _ (Nat.le_refl _) hg
 rw [h2] at h3;cases h3
theorem GO (o:List Ar) (x:Ar) (hn:o.length<=100000000) (hs:SortA o):FC Tryd.prog 71 [CH o,.a (.g [.v (.int .i64 x.1),.v (.int .i64 x.2)])] [] (fun r q=>q=[]/\∃ n:Nat,r=.i n/\FstP o x n):=by
 refine A8 Tryd.func71 rfl (by rw [Tryd.ntmps71];simp) ?_
 rw [Tryd.ntmps71]
 simp only [Bs,CH]
 (refine Ue (an @A4 @AA) ?_;(repeat clear hK K);repeat refine kq fun K hK=>?_)
 refine Ac (fun p:Nat × Nat=>{ tm:=[(0,.a (.c (.t 2 (Al o)))),(3,.a (.c (.p 0 0))),(5,.i p.1),(6,.i p.2)],hp:=[.r ⟨52,2,false,[.v (.int .i64 x.1),.v (.int .i64 x.2)]⟩],n:=30,pin:=0 })
  (fun p=>p.1<=p.2/\p.2<=o.length/\(∀ i a,i<p.1->o[i]?=some a->Ut a x=true)/\∀ i a,p.2<=i->o[i]?=some a->Ut a x=false) (fun p=>p.2 - p.1) (0,o.length) ?_ ?_ ?_
 ·exact ⟨by simp,Nat.le_refl _,fun i _ hi=>by simp at hi,fun i a hi ha=>by have:=(List.getElem?_eq_some_iff.1 ha).1;simp only at hi;omega⟩
 ·(refine BG ?_;simp only [Dl,go_sem,Int.natCast_zero];try simp)
 rintro ⟨lo,hi⟩ ⟨h1,h2,h3,h4⟩ K hK
 simp only at h1 h2 h3 h4 ⊢
 by_cases hlt:lo<hi
 rotate_left
 ·have hl1:decide ((lo:Int)<(hi:Int))=false:=by simpa using hlt
  have e:lo=hi:=by omega
  subst e
  (refine Ue @hl1 ?_;(repeat clear hK K);repeat refine kq fun K hK=>?_)
  refine Ul ?_
  (refine Uh ?_;repeat clear hK K)
  (refine Ud ?_;(repeat clear hK K);repeat refine kq fun K hK=>?_)
  refine Uo [] Tryd.results71 ?_
  exact ⟨lo,rfl,h2,h3,h4⟩
 have hl1:decide ((lo:Int)<(hi:Int))=true:=by simpa using hlt
 have em:((lo:Int)+((hi:Int) - (lo:Int)) / 2)=((lo+(hi - lo) / 2:Nat):Int):=by omega
 have hm1:lo<=lo+(hi - lo) / 2:=by omega
 have hm2:lo+(hi - lo) / 2<hi:=by omega
 generalize lo+(hi - lo) / 2=m at em hm1 hm2
 have hml:m<o.length:=by omega
 have hg:=gE1 hml
 have hk2:=AH hml
 (refine Ue (an @hl1 @em) ?_;(repeat clear hK K);repeat refine kq fun K hK=>?_)
 refine Uk ?_
 (refine Ue @em ?_;(repeat clear hK K);repeat refine kq fun K hK=>?_)
 (refine Ag 5 [(0,0),(1,0),(2,0),(3,1),(4,1),(5,2),(6,0)] (by kernel_rfl) (by kernel_rfl) (by intro c st h;simp [Ai,AX,Tz] at h) ?_)
 (refine Ua (an @A4 (an @AA @hk2)) ?_;repeat clear hK K)
 (refine S5 (Lm o[m] x) ?_;intro K1 hK1)
 rintro _ _ ⟨rfl,rfl⟩
 (refine Uj ?_;clear hK1 K1)
 cases hl:Ut o[m] x with
 | true=>
  (refine Ua (an @BM @hl) ?_;repeat clear hK K)
  refine Uk ?_
  (refine Ud ?_;(repeat clear hK K);repeat refine kq fun K hK=>?_)
  refine Um ?_
  refine hK _ (m+1,hi) ⟨by simp only;omega,h2,fun i a hi' ha=>?_,h4⟩ (by simp only;omega) ?_
  rotate_left
  ·exact Un
  rcases Nat.lt_or_ge i m with h5 | h5
  ·exact Cq (hs.at h5 ha hg) hl
  have e:i=m:=by simp only at hi';omega
  subst e;rw [hg] at ha;cases ha;exact hl
 | false=>
  (refine Ua (an @BM @hl) ?_;repeat clear hK K)
  refine Ul ?_
  (refine Ud ?_;(repeat clear hK K);repeat refine kq fun K hK=>?_)
  refine Um ?_
  refine hK _ (lo,m) ⟨by simp only;omega,by simp only;omega,h3,fun i a hi' ha=>?_⟩ (by simp only;omega) ?_
  rotate_left
  ·exact Un
  rcases Nat.lt_or_ge m i with h5 | h5
  rotate_left
  ·have e:i=m:=by simp only at hi';omega
   subst e;rw [hg] at ha;cases ha;exact hl
  cases h6:Ut a x with
  | false=>rfl
  | true=>rw [Cq (hs.at h5 hg ha) h6] at hl;cases hl

theorem QD:Sg Tryd.prog 52 2:=R9 Tryd.underlying52 (by kernel_rfl) (by kernel_rfl) (by decide) (by decide) rfl rfl (by kernel_rfl) (by kernel_rfl)
theorem MG (x y:Operand) (a b:Ar):EL Tryd.prog .eql 52 x y [.int .i64 a.1,.int .i64 a.2] [.int .i64 b.1,.int .i64 b.2] (decide (a=b))=True:=by
 rw [<- CN]
 refine eq_true ?_
 have:=(QD x y [.v (.int .i64 a.1),.v (.int .i64 a.2)] [.v (.int .i64 b.1),.v (.int .i64 b.2)] _ _ rfl rfl rfl rfl).1
 simpa [Th] using this
theorem En (o:List Ar) (x:Ar) (hn:o.length<=100000000) (hs:SortA o):FC Tryd.prog 54 [CH o,.a (.g [.v (.int .i64 x.1),.v (.int .i64 x.2)])] [] (fun r q=>q=[]/\r=.b (decide (x∈o))):=by
 refine A8 Tryd.func54 rfl (by rw [Tryd.ntmps54];simp) ?_
 rw [Tryd.ntmps54]
 simp only [Bs,CH]
 (refine Ud ?_;(repeat clear hK K);repeat refine kq fun K hK=>?_)
 (refine Ui (GO o x hn hs) ?_;intro K1 hK1)
 rintro _ _ ⟨rfl,n,rfl,hf⟩
 (refine Uj ?_;clear hK1 K1)
 (refine Ud ?_;(repeat clear hK K);repeat refine kq fun K hK=>?_)
 (refine Ag 12 [(0,0),(1,0),(2,0),(3,0),(4,0),(5,0),(6,0),(7,0),(8,1),(9,1),(10,0),(11,0),(12,2)] (by kernel_rfl) (by kernel_rfl) (by intro c st h;simp [Ai,AX,Tz] at h) ?_)
 by_cases hlt:n<o.length
 rotate_left
 ·have hl1:decide ((n:Int)<(o.length:Int))=false:=by simpa using hlt
  (refine U8 (an @hl1 (an @A4 @AA)) ?_;repeat clear hK K)
  (refine Ud ?_;(repeat clear hK K);repeat refine kq fun K hK=>?_)
  refine Uo [] Tryd.results54 ?_
  have:=hf.mem hs
  rw [List.getElem?_eq_none (by omega)] at this
  simp at this
  simp [this]
 have hl1:decide ((n:Int)<(o.length:Int))=true:=by simpa using hlt
 have hg:=gE1 hlt
 have hk2:=AH hlt
 (refine U8 (an @hl1 (an @hk2 (an @MG (an @CN (an @true_and (an @A4 @AA)))))) ?_;repeat clear hK K)
 (refine Ud ?_;(repeat clear hK K);repeat refine kq fun K hK=>?_)
 refine Uo [] Tryd.results54 ?_
 have:=hf.mem hs
 rw [hg] at this
 simp only [Option.some.injEq] at this
 simp [this]

theorem FstP.le {o:List Ar} {x y:Ar} {n m:Nat} (h1:FstP o x n) (h2:FstP o y m) (h:∀ a,Ut a x=true->Ut a y=true):n<=m:=by
 rcases Nat.lt_or_ge m n with h3 | h3
 rotate_left
 ·exact h3
 have hl:=h1.1
 have hg:=gE1 (show m<o.length by omega)
 have h4:=h _ (h1.2.1 m _ h3 hg)
 rw [h2.2.2 m _ (Nat.le_refl _) hg] at h4
 cases h4
theorem HI (o:List Ar) (e:Int) (hn:o.length<=100000000) (hs:SortA o) (hv:Da e=true) (hh:∀ a∈o,0<=a.2):FC Tryd.prog 53 [CH o,.i e] [] (fun r q=>q=[]/\∃ W,r=CH W/\W.length<=o.length/\∀ a,a∈W↔a∈o/\a.1=e):=by
 refine A8 Tryd.func53 rfl (by rw [Tryd.ntmps53];simp) ?_
 rw [Tryd.ntmps53]
 simp only [Bs,CH]
 obtain ⟨he1,he2⟩:=CU.1 hv
 (refine Ud ?_;(repeat clear hK K);repeat refine kq fun K hK=>?_)
 (refine Ui (GN e) ?_;intro K1 hK1)
 rintro _ _ ⟨rfl,rfl⟩
 (refine Uj ?_;clear hK1 K1)
 (refine Ue (an @hv @Bool.not_true) ?_;(repeat clear hK K);repeat refine kq fun K hK=>?_)
 refine Ul ?_
 (refine Ud ?_;(repeat clear hK K);repeat refine kq fun K hK=>?_)
 (refine Ui (GO o (e,0) hn hs) ?_;intro K1 hK1)
 rintro _ _ ⟨rfl,i,rfl,hf⟩
 (refine Uj ?_;clear hK1 K1)
 (refine Ud ?_;(repeat clear hK K);repeat refine kq fun K hK=>?_)
 (refine Ui (GO o (e+1,0) hn hs) ?_;intro K1 hK1)
 rintro _ _ ⟨rfl,j,rfl,hf2⟩
 (refine Uj ?_;clear hK1 K1)
 have hij:i<=j:=hf.le hf2 fun a ha=>by rw [BA] at ha ⊢;simp only at ha ⊢;omega
 have hjl:=hf2.1
 refine A9 rfl ?_;intro K1 hK1
 refine Oy (k:=2) (cs:=Al o) (i:=i) (j:=j) (kk:=.i64) (kk':=.i64) rfl rfl (by simp only [go_sem]) (by simp only [go_sem]) (by simp only [go_sem]) (by simp only [go_sem]) (by omega) hij (by rw [A4];omega) ?_
 simp only [go_sem]
 refine hK1 _ ?_;clear hK1 K1
 (refine Ud ?_;(repeat clear hK K);repeat refine kq fun K hK=>?_)
 refine Uo [] Tryd.results53 ?_
 refine ⟨(o.drop i).take (j - i),?_,?_,fun a=>?_⟩
 ·rw [FO,CZ]
 ·simp;omega
 constructor
 ·intro ha
  obtain ⟨q,hq⟩:=List.mem_iff_getElem?.1 ha
  rw [List.getElem?_take] at hq
  split at hq
  rotate_left
  ·cases hq
  rw [List.getElem?_drop] at hq
  have hm:=gE9 hq
  have h1:=hf.2.2 (i+q) a (by omega) hq
  have h2:=hf2.2.1 (i+q) a (by omega) hq
  rw [BA] at h2
  have h1:¬ (a.1<e\/(a.1=e/\a.2<0)):=by rw [<- BA (a:=a) (b:=(e,0)),h1];simp
  have h3:=hh a hm
  simp only at h2
  exact ⟨hm,by omega⟩
 rintro ⟨hm,ha⟩
 obtain ⟨q,hq⟩:=List.mem_iff_getElem?.1 hm
 have hqi:i<=q:=by
  rcases Nat.lt_or_ge q i with h1 | h1
  rotate_left
  ·exact h1
  have h2:=hf.2.1 q a h1 hq
  rw [BA] at h2
  have:=hh a hm
  simp only at h2
  omega
 have hqj:q<j:=by
  rcases Nat.lt_or_ge q j with h1 | h1
  ·exact h1
  have h2:=hf2.2.2 q a h1 hq
  have h3:Ut a (e+1,0)=true:=by rw [BA];simp only;omega
  rw [h2] at h3;cases h3
 refine List.mem_iff_getElem?.2 ⟨q - i,?_⟩
 rw [List.getElem?_take,if_pos (by omega),List.getElem?_drop,show i+(q - i)=q by omega]
 exact hq
set_option maxHeartbeats 2000000 in
theorem QE (o:List Ar) (hn:o.length<=100000000):FC Tryd.prog 28 [CH o] [] (fun r q=>q=[]/\r=.b (KE o)):=by
 refine A8 Tryd.func28 rfl (by rw [Tryd.ntmps28];simp) ?_
 rw [Tryd.ntmps28]
 simp only [Bs,CH]
 (refine Ue (an @A4 @AA) ?_;(repeat clear hK K);repeat refine kq fun K hK=>?_)
 refine Ac (fun k:Nat=>{ tm:=[(0,.a (.c (.t 2 (Al o)))),(9,.a (.c (.t 2 (Al o)))),(10,.i o.length),(11,.i k)],hp:=[],n:=73,pin:=0 }) (fun k=>k<=o.length/\(∀ i a,i<k->o[i]?=some a->D8 a.1/\D8 a.2/\a.1 ≠ a.2)/\∀ i a b,i+1<k->o[i]?=some a->o[i+1]?=some b->Ut a b=true) (fun k=>o.length - k) 0 ?_ ?_ ?_
 ·exact ⟨by omega,fun i _ hi=>by omega,fun i _ _ hi=>by omega⟩
 ·exact Un
 rintro k ⟨hk,hc,hs⟩ K hK
 by_cases hlt:k<o.length
 rotate_left
 ·have hl1:decide ((k:Int)<(o.length:Int))=false:=by simpa using hlt
  (refine Ue @hl1 ?_;(repeat clear hK K);repeat refine kq fun K hK=>?_)
  refine Ul ?_
  have lt:∀ {i:Nat} {a:Ar},o[i]?=some a->i<k:=fun h=>by have:=(List.getElem?_eq_some_iff.1 h).1;omega
  have hS:SortA o:=Ho fun i a b h1 h2=>hs i a b (lt h2) h1 h2
  have hC:∀ a∈o,D8 a.1/\D8 a.2/\a.1 ≠ a.2:=fun a ha=>by obtain ⟨i,hi⟩:=List.mem_iff_getElem?.1 ha;exact hc i a (lt hi) hi
  have hH:∀ a∈o,0<=a.2:=fun a ha=>by obtain ⟨_,⟨h1,h2⟩,_⟩:=hC a ha;omega
  clear hs hc lt
  (refine Uh ?_;repeat clear hK K)
  (refine Ue (an @A4 @AA) ?_;(repeat clear hK K);repeat refine kq fun K hK=>?_)
  refine Ac (fun k:Nat=>{ tm:=[(0,.a (.c (.t 2 (Al o)))),(48,.a (.c (.t 2 (Al o)))),(49,.i o.length),(50,.i k)],hp:=[],n:=73,pin:=0 }) (fun k=>k<=o.length/\∀ i x,i<k->o[i]?=some x->∀ y∈o,y.1=x.2->(x.1,y.2)∈o) (fun k=>o.length - k) 0 ?_ ?_ ?_
  ·exact ⟨by omega,fun i _ hi=>by omega⟩
  ·exact Un
  rintro k ⟨hk,ht⟩ K hK
  by_cases hlt:k<o.length
  rotate_left
  ·have hl1:decide ((k:Int)<(o.length:Int))=false:=by simpa using hlt
   (refine Ue @hl1 ?_;(repeat clear hK K);repeat refine kq fun K hK=>?_)
   refine Ul ?_
   (refine Uh ?_;repeat clear hK K)
   (refine Ud ?_;(repeat clear hK K);repeat refine kq fun K hK=>?_)
   refine Uo [] Tryd.results28 ?_
   have:KE o=true:=by
    rw [KE,decide_eq_true_iff]
    refine ⟨hS,hC,fun x hx=>?_⟩
    obtain ⟨i,hi⟩:=List.mem_iff_getElem?.1 hx
    exact ht i x (by have:=(List.getElem?_eq_some_iff.1 hi).1;omega) hi
   rw [this]
  have hl1:decide ((k:Int)<(o.length:Int))=true:=by simpa using hlt
  have hg:=gE1 hlt
  have hk2:=AH hlt
  have mk:=gE6 hlt
  have hv:=CU.2 (hC _ mk).2.1
  (refine Ue @hl1 ?_;(repeat clear hK K);repeat refine kq fun K hK=>?_)
  refine Uk ?_
  (refine Ue (an @A4 (an @AA @hk2)) ?_;(repeat clear hK K);repeat refine kq fun K hK=>?_)
  (refine Ui (HI o o[k].2 hn hS hv hH) ?_;intro K1 hK1)
  rintro _ _ ⟨rfl,W,rfl,hWl,hW⟩
  (simp only [AK,CB,CH,List.append_nil,List.nil_append,List.length_map,go_sem];refine hK1 _ ?_;clear hK1 K1)
  (refine Ue (an @A4 @AA) ?_;(repeat clear hK K);repeat refine kq fun K hK=>?_)
  refine Ac (fun j:Nat=>{ tm:=[(0,.a (.c (.t 2 (Al o)))),(6,.a (.c (.p 0 0))),(48,.a (.c (.t 2 (Al o)))),(49,.i o.length),(50,.i k),(57,.a (.c (.t 2 (Al W)))),(58,.i W.length),(59,.i j)],hp:=[.r ⟨52,2,false,[.v (.int .i64 o[k].1),.v (.int .i64 o[k].2)]⟩],n:=73,pin:=0 }) (fun j=>j<=W.length/\∀ i y,i<j->W[i]?=some y->(o[k].1,y.2)∈o) (fun j=>W.length - j) 0 ?_ ?_ ?_
  ·exact ⟨by omega,fun i _ hi=>by omega⟩
  ·exact Un
  rintro j ⟨hj,hj2⟩ K hK
  by_cases hltj:j<W.length
  rotate_left
  ·have hl2:decide ((j:Int)<(W.length:Int))=false:=by simpa using hltj
   (refine Ue @hl2 ?_;(repeat clear hK K);repeat refine kq fun K hK=>?_)
   refine Ul ?_
   (refine Uh ?_;repeat clear hK K)
   (refine Ud ?_;(repeat clear hK K);repeat refine kq fun K hK=>?_)
   refine Um ?_
   refine hK _ (k+1) ⟨by omega,fun i x hi hx y hy he=>?_⟩ (by omega) ?_
   rotate_left
   ·refine Le.trans (Ad [] rfl rfl) ?_
    (try simp only [List.set_nil,List.take_nil,List.take_zero,List.map_append,go_sem])
    exact Un
   by_cases e:i=k
   rotate_left
   ·exact ht i x (by omega) hx y hy he
   subst e;rw [hg] at hx;cases hx
   obtain ⟨q,hq⟩:=List.mem_iff_getElem?.1 ((hW y).2 ⟨hy,he⟩)
   exact hj2 q y (by have:=(List.getElem?_eq_some_iff.1 hq).1;omega) hq
  have hl2:decide ((j:Int)<(W.length:Int))=true:=by simpa using hltj
  have hgj:=gE1 hltj
  have hj3:=AH hltj
  have mj:=(hW _).1 (gE6 hltj)
  (refine Ue @hl2 ?_;(repeat clear hK K);repeat refine kq fun K hK=>?_)
  refine Uk ?_
  (refine Ue (an @A4 (an @AA @hj3)) ?_;(repeat clear hK K);repeat refine kq fun K hK=>?_)
  (refine Ui (En o (o[k].1,W[j].2) hn hS) ?_;intro K1 hK1)
  rintro _ _ ⟨rfl,rfl⟩
  (refine Uj ?_;clear hK1 K1)
  by_cases q3:(o[k].1,W[j].2)∈o
  rotate_left
  ·have q4:decide ((o[k].1,W[j].2)∈o)=false:=by simpa using q3
   (refine Ue (an @q4 @Bool.not_false) ?_;(repeat clear hK K);repeat refine kq fun K hK=>?_)
   refine Uk ?_
   (refine Ud ?_;(repeat clear hK K);repeat refine kq fun K hK=>?_)
   refine Uo [] Tryd.results28 ?_
   rw [Pw mk mj.1 mj.2 q3]
  have q4:decide ((o[k].1,W[j].2)∈o)=true:=by simpa using q3
  (refine Ue (an @q4 @Bool.not_true) ?_;(repeat clear hK K);repeat refine kq fun K hK=>?_)
  refine Ul ?_
  (refine Ud ?_;(repeat clear hK K);repeat refine kq fun K hK=>?_)
  refine Um ?_
  refine hK _ (j+1) ⟨by omega,fun i y hi hy=>?_⟩ (by omega) ?_
  ·by_cases e:i=j
   ·subst e;rw [hgj] at hy;cases hy;exact q3
   exact hj2 i y (by omega) hy
  refine Le.trans (Ad [0] rfl rfl) ?_
  (try simp only [List.set_nil,List.take_nil,List.take_zero,List.map_append,go_sem])
  exact Un
 have hl1:decide ((k:Int)<(o.length:Int))=true:=by simpa using hlt
 have hg:=gE1 hlt
 have hk2:=AH hlt
 have bad:¬ (D8 o[k].1/\D8 o[k].2/\o[k].1 ≠ o[k].2)->KE o=false:=fun h=>Np hg h
 (refine Ue @hl1 ?_;(repeat clear hK K);repeat refine kq fun K hK=>?_)
 refine Uk ?_
 (refine Ue (an @A4 (an @AA @hk2)) ?_;(repeat clear hK K);repeat refine kq fun K hK=>?_)
 (refine C2 [] [(0,0,0),(1,1,2),(2,2,0),(3,0,0),(4,0,0),(5,0,0),(6,1,7),(7,2,0),(8,0,0),(9,0,0),(10,0,0),(11,0,0),(13,0,0),(12,1,27),(14,1,27),(15,0,0),(16,0,0),(17,0,0),(18,0,0),(19,0,0),(20,0,0),(21,0,0),(22,0,0),(23,0,0),(24,0,0),(25,1,27),(26,1,27),(27,2,0),(28,0,0),(29,0,0),(30,2,0)] (by kernel_rfl) (by kernel_rfl) (by intro c st h;simp [Ai,AX,Tz] at h) ?_)
 (refine Ub ?_;repeat clear hK K)
 (refine U0 rfl rfl ?_;intro K1 hK1;refine Bb ?_;refine xv [] (GN o[k].1) ?_ ?_)
 ·rintro _ _ ⟨rfl,rfl⟩ i o hi hl;simp at hl
 rintro _ _ ⟨rfl,rfl⟩
 (refine Uj ?_;clear hK1 K1)
 by_cases c1:Da o[k].1=true
 rotate_left
 ·have c1':Da o[k].1=false:=by simpa using c1
  (refine Uc (an @c1' (an @Bool.not_true @Bool.not_false)) ?_;repeat clear hK K)
  (refine U1 rfl rfl rfl ?_;intro K1 hK1;refine Ba rfl ?_;simp only [go_sem];(first | refine hK1 _ ?_ | refine AE (hK1 _ ?_));clear hK1 K1)
  (refine Ub ?_;repeat clear hK K)
  (refine Ud ?_;(repeat clear hK K);repeat refine kq fun K hK=>?_)
  refine Uk ?_
  (refine Ud ?_;(repeat clear hK K);repeat refine kq fun K hK=>?_)
  refine Uo [] Tryd.results28 ?_
  rw [bad (fun h=>JN.1 c1' h.1)]
 (refine Uc (an @c1 @Bool.not_true) ?_;repeat clear hK K)
 (refine Sj rfl rfl rfl (by simp only [go_sem] <;> rfl) ?_;intro K1 hK1;refine Bb ?_;refine xv [] (GN o[k].2) ?_ ?_)
 ·rintro _ _ ⟨rfl,rfl⟩ i o hi hl;simp at hl
 rintro _ _ ⟨rfl,rfl⟩
 (refine Uj ?_;clear hK1 K1)
 by_cases c2:Da o[k].2=true
 rotate_left
 ·have c2':Da o[k].2=false:=by simpa using c2
  (refine Uc (an @c1 (an @c2' (an @Bool.not_true @Bool.not_false))) ?_;repeat clear hK K)
  (refine U1 rfl rfl rfl ?_;intro K1 hK1;refine Ba rfl ?_;simp only [go_sem];(first | refine hK1 _ ?_ | refine AE (hK1 _ ?_));clear hK1 K1)
  (refine Ub ?_;repeat clear hK K)
  (refine Ud ?_;(repeat clear hK K);repeat refine kq fun K hK=>?_)
  refine Uk ?_
  (refine Ud ?_;(repeat clear hK K);repeat refine kq fun K hK=>?_)
  refine Uo [] Tryd.results28 ?_
  rw [bad (fun h=>JN.1 c2' h.2.1)]
 by_cases c5:o[k].1=o[k].2
 ·have d5:(o[k].1 == o[k].2)=true:=by simpa using c5
  (refine Uc (an @c1 (an @c2 (an @d5 @Bool.not_true))) ?_;repeat clear hK K)
  (refine U1 rfl rfl rfl ?_;intro K1 hK1;refine Ba rfl ?_;simp only [go_sem];(first | refine hK1 _ ?_ | refine AE (hK1 _ ?_));clear hK1 K1)
  (refine Ub ?_;repeat clear hK K)
  (refine Ud ?_;(repeat clear hK K);repeat refine kq fun K hK=>?_)
  refine Uk ?_
  (refine Ud ?_;(repeat clear hK K);repeat refine kq fun K hK=>?_)
  refine Uo [] Tryd.results28 ?_
  rw [bad (fun h=>h.2.2 c5)]
 have d5:(o[k].1 == o[k].2)=false:=by simpa using c5
 have hck:D8 o[k].1/\D8 o[k].2/\o[k].1 ≠ o[k].2:=⟨CU.1 c1,CU.1 c2,c5⟩
 by_cases h0:k=0
 ·have e0:decide ((k:Int) > 0)=false:=by simp;omega
  (refine Uc (an @c1 (an @c2 (an @d5 (an @e0 @Bool.not_true)))) ?_;repeat clear hK K)
  (refine U1 rfl rfl rfl ?_;intro K1 hK1;refine Ba rfl ?_;simp only [go_sem,c1,c2,e0,Bool.not_true];(first | refine hK1 _ ?_ | refine AE (hK1 _ ?_));clear hK1 K1)
  (refine Ub ?_;repeat clear hK K)
  (refine Ud ?_;(repeat clear hK K);repeat refine kq fun K hK=>?_)
  refine Ul ?_
  (refine Ud ?_;(repeat clear hK K);repeat refine kq fun K hK=>?_)
  refine Um ?_
  refine hK _ (k+1) ⟨by omega,fun i a hi ha=>?_,fun i x y hi=>by omega⟩ (by omega) ?_
  ·have e2:i=k:=by omega
   subst e2;rw [hg] at ha;cases ha;exact hck
  refine Le.trans (Ad [] rfl rfl) ?_
  (try simp only [List.set_nil,List.take_nil,List.take_zero,List.map_append,go_sem])
  exact Un
 have e0:decide ((k:Int) > 0)=true:=by simp;omega
 have e3:((k:Int) - 1)=((k - 1:Nat):Int):=by omega
 have hlt1:k - 1<o.length:=by omega
 have hg1:=gE1 hlt1
 have hk3:=AH hlt1
 (refine Uc (an @c1 (an @c2 (an @d5 (an @e0 (an @e3 (an @Bool.not_true (an @A4 (an @AA @hk3)))))))) ?_;repeat clear hK K)
 (refine Sj rfl rfl rfl (by simp only [go_sem] <;> rfl) ?_;intro K1 hK1;refine Bb ?_;refine xv [] (Lm o[k - 1] o[k]) ?_ ?_)
 ·rintro _ _ ⟨rfl,rfl⟩ i o hi hl;simp at hl
 rintro _ _ ⟨rfl,rfl⟩
 (refine Uj ?_;clear hK1 K1)
 cases hl:Ut o[k - 1] o[k] with
 | false=>
  (refine Uc (an @Gk (an @hl @Bool.not_false)) ?_;repeat clear hK K)
  (refine U1 rfl rfl rfl ?_;intro K1 hK1;refine Ba rfl ?_;simp only [go_sem];(first | refine hK1 _ ?_ | refine AE (hK1 _ ?_));clear hK1 K1)
  (refine Ub ?_;repeat clear hK K)
  (refine Ud ?_;(repeat clear hK K);repeat refine kq fun K hK=>?_)
  refine Uk ?_
  (refine Ud ?_;(repeat clear hK K);repeat refine kq fun K hK=>?_)
  refine Uo [] Tryd.results28 ?_
  rw [Nq hg1 (by rw [Nat.sub_add_cancel (by omega)];exact hg) hl]
 | true=>
  (refine Uc (an @Gk (an @hl @Bool.not_true)) ?_;repeat clear hK K)
  (refine U1 rfl rfl rfl ?_;intro K1 hK1;refine Ba rfl ?_;simp only [go_sem];(first | refine hK1 _ ?_ | refine AE (hK1 _ ?_));clear hK1 K1)
  (refine Ub ?_;repeat clear hK K)
  (refine Ud ?_;(repeat clear hK K);repeat refine kq fun K hK=>?_)
  refine Ul ?_
  (refine Ud ?_;(repeat clear hK K);repeat refine kq fun K hK=>?_)
  refine Um ?_
  refine hK _ (k+1) ⟨by omega,fun i a hi ha=>?_,fun i x y hi hx hy=>?_⟩ (by omega) ?_
  rotate_left 2
  ·refine Le.trans (Ad [] rfl rfl) ?_
   (try simp only [List.set_nil,List.take_nil,List.take_zero,List.map_append,go_sem])
   exact Un
  ·by_cases e2:i=k
   ·subst e2;rw [hg] at ha;cases ha;exact hck
   exact hc i a (by omega) ha
  by_cases e2:i+1=k
  rotate_left
  ·exact hs i x y (by omega) hx hy
  have e4:i=k - 1:=by omega
  subst e4
  rw [hg1] at hx;rw [e2,hg] at hy
  cases hx;cases hy;exact hl
attribute [local go_sem] lga C.pl C.one
theorem MH (o:List Ar) (e:Int) (hv:Da e=false):FC Tryd.prog 53 [CH o,.i e] [] (fun r q=>q=[]/\r=.a (.c (.v (.slice none 0 0)))):=by
 refine A8 Tryd.func53 rfl (by rw [Tryd.ntmps53];simp) ?_
 rw [Tryd.ntmps53]
 have h:=GN e
 rw [hv] at h
 simp only [Bs,CH]
 (refine Ud ?_;(repeat clear hK K);repeat refine kq fun K hK=>?_)
 (refine Ui h ?_;intro K1 hK1)
 rintro _ _ ⟨rfl,rfl⟩
 (refine Uj ?_;clear hK1 K1)
 (refine Ue @Bool.not_false ?_;(repeat clear hK K);repeat refine kq fun K hK=>?_)
 refine Uk ?_
 (refine Ud ?_;(repeat clear hK K);repeat refine kq fun K hK=>?_)
 exact L9 Tryd.results53
def HJ (o:List Ar) (lo hi:Int):Bool:=if hi=0\/hi=1 then o.any (fun a=>a.1 == lo) else decide ((lo,hi)∈o)
set_option maxHeartbeats 1000000 in
theorem QF (o:List Ar) (lo hi:Int) (hn:o.length<=1000000) (hs:SortA o) (hh:∀ a∈o,0<=a.2) (hc:∀ a∈o,Da a.1=true):FC Tryd.prog 32 [CH o,.i lo,.i hi] [] (fun r q=>q=[]/\r=.b (HJ o lo hi)):=by
 refine A8 Tryd.func32 rfl (by rw [Tryd.ntmps32];simp) ?_
 rw [Tryd.ntmps32]
 have hcn:=En o (lo,hi) (by omega) hs
 have hab:=HI o lo (by omega) hs
 have hno:=MH o lo
 simp only [Bs,CH] at hcn hab hno ⊢
 by_cases h01:hi=0\/hi=1
 rotate_left
 ·have hval:HJ o lo hi=decide ((lo,hi)∈o):=by unfold HJ;rw [if_neg h01]
  have h0:(hi == 0)=false:=by simp;omega
  have h1:(hi == 1)=false:=by simp;omega
  rw [hval]
  (refine Ue (an @h0 @h1) ?_;(repeat clear hK K);repeat refine kq fun K hK=>?_)
  refine Ul ?_
  (refine Ud ?_;(repeat clear hK K);repeat refine kq fun K hK=>?_)
  (refine Ui hcn ?_;intro K1 hK1)
  rintro _ _ ⟨rfl,rfl⟩
  (refine Uj ?_;clear hK1 K1)
  (refine Ud ?_;(repeat clear hK K);repeat refine kq fun K hK=>?_)
  exact L9 Tryd.results32
 have hval:HJ o lo hi=o.any (fun a=>a.1 == lo):=by unfold HJ;rw [if_pos h01]
 rw [hval]
 cases h0:(hi == 0) <;> cases h1:(hi == 1)
 ·simp at h0 h1;omega
 all_goals
  (refine Ue (an @h0 @h1) ?_;(repeat clear hK K);repeat refine kq fun K hK=>?_)
  refine Uk ?_
  (refine Ud ?_;(repeat clear hK K);repeat refine kq fun K hK=>?_)
  cases hv:Da lo with
  | true=>
   (refine Ui (hab hv hh) ?_;intro K1 hK1)
   rintro _ _ ⟨rfl,W,rfl,hW,hWm⟩
   (refine Uj ?_;clear hK1 K1)
   have e:o.any (fun a=>a.1 == lo)=decide ((W.length:Int) > 0):=by
    cases W with
    | nil=>
     rw [show decide ((([]:List Ar).length:Int) > 0)=false by simp,List.any_eq_false]
     intro a ha h
     have:=(hWm a).2 ⟨ha,by simpa using h⟩
     simp at this
    | cons b W=>
     rw [show decide (((b :: W).length:Int) > 0)=true by simp,List.any_eq_true]
     have:=(hWm b).1 List.mem_cons_self
     exact ⟨b,this.1,by simpa using this.2⟩
   (refine Ue @A4 ?_;(repeat clear hK K);repeat refine kq fun K hK=>?_)
   refine Uq Tryd.results32 ?_
   rw [e,show W.length*2 / 2=W.length by omega]
  | false=>
   (refine Ui (hno hv) ?_;intro K1 hK1)
   rintro _ _ ⟨rfl,rfl⟩
   (refine Uj ?_;clear hK1 K1)
   have e:o.any (fun a=>a.1 == lo)=false:=by
    rw [List.any_eq_false]
    intro a ha h
    have h2:=hc a ha
    rw [show a.1=lo by simpa using h,hv] at h2
    cases h2
   (refine Ud ?_;(repeat clear hK K);repeat refine kq fun K hK=>?_)
   refine Uq Tryd.results32 ?_
   rw [e]
   rfl
theorem RZ (o:List Ar) (x:Ar) (e:Int) (hn:o.length<=1000000) (hs:SortA o) (hh:∀ a∈o,0<=a.2) (hc:∀ a∈o,Da a.1=true):FC Tryd.prog 31 [.i e,.a (.c (.p 0 0)),.a (.c (.p 1 0))] [.r ⟨38,1,false,[.t 2 (Al o)]⟩,.r ⟨29,2,false,[.v (.int .i64 x.1),.v (.int .i64 x.2)]⟩] (fun r q=>q=[.r ⟨38,1,false,[.t 2 (Al o)]⟩,.r ⟨29,2,false,[.v (.int .i64 x.1),.v (.int .i64 x.2)]⟩]/\r=.b (HJ o x.1 e)):=by
 refine A8 Tryd.func31 rfl (by rw [Tryd.ntmps31];simp) ?_
 rw [Tryd.ntmps31]
 have hb:=QF o x.1 e hn hs hh hc
 simp only [Bs,CH] at hb ⊢
 (refine Ud ?_;(repeat clear hK K);repeat refine kq fun K hK=>?_)
 (refine Ui hb ?_;intro K1 hK1)
 rintro _ _ ⟨rfl,rfl⟩
 (refine Uj ?_;clear hK1 K1)
 (refine Ud ?_;(repeat clear hK K);repeat refine kq fun K hK=>?_)
 exact Re [0,1] Tryd.results31
end Go.Proofs.YtjijjfkalheokaaDoor
