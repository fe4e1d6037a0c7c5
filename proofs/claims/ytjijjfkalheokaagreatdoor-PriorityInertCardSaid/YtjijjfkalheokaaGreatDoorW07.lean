/- Lemmas. -/
import Derived.Test.YtjijjfkalheokaaGreatDoorZk
import Derived.Test.YtjijjfkalheokaaGreatDoorW03
import Derived.Test.YtjijjfkalheokaaGreatDoorMno
import Derived.Test.YtjijjfkalheokaaGreatDoorG70
import Derived.Test.YtjijjfkalheokaaGreatDoorG37
import Derived.Test.YtjijjfkalheokaaGreatDoorG11
import Derived.Test.YtjijjfkalheokaaGreatDoorDl2
import Derived.Test.YtjijjfkalheokaaGreatDoorME
namespace Go.Proofs.YtjijjfkalheokaaGreatDoor
set_option linter.unusedVariables false
set_option linter.unusedSimpArgs false
open Go.RowKit
set_option maxRecDepth 100000
attribute [local go_sem] lga C.pl C.one

def CpC (X:List (List Ar)) (D c:List Int):Prop:=∀ v,v<X.length->c.getD (XG D v) 0=c.getD v 0
theorem Uu {X:List (List Ar)} {D cl:List Int} (hv:Bv X=true) (h:CpOk X D) (hc:Nrm X.length cl) {v:Nat} (hs:v<X.length):Xi (C9 X) cl (XG D v)=Xi (C9 X) cl v:=by
 have hcv:=(BN hv h hs).2.1
 refine Cg (B9 _) (B9 _) fun x=>?_
 show x∈Xi (C9 X) cl (XG D v)↔x∈Xi (C9 X) cl v
 obtain ⟨e,y⟩:=x
 have key:∀ i:Nat,(e,(i:Int))∈Xi (C9 X) cl (XG D v)↔(e,(i:Int))∈Xi (C9 X) cl v:=fun i=>by
  by_cases he:e=0
  ·subst he;rw [Fe hv hcv,Fe hv hs,O6 hv h hs]
  rw [Ff hv hcv he,Ff hv hs he,LU hv h hs]
 constructor
 rotate_left
 ·intro hx
  obtain ⟨i,_,hy⟩:=NZ hv hc hs hx
  simp only at hy
  subst hy
  exact (key i).2 hx
 intro hx
 obtain ⟨i,_,hy⟩:=NZ hv hc hcv hx
 simp only at hy
 subst hy
 exact (key i).1 hx
theorem CpC.next {X:List (List Ar)} {D cl:List Int} (hv:Bv X=true) (hn:X.length<=100) (h:CpOk X D) (hc:Nrm X.length cl) (hC:CpC X D cl):CpC X D (Xk (C9 X) cl):=by
 intro v hs
 have hSl:=(Ht hv hn).1
 have hcv:=(BN hv h hs).2.1
 unfold Xk
 refine ((Cx (Xj (C9 X) cl) (C9 X).length).eq _ _ (by omega) (by omega)).2 ?_
 unfold Xj
 rw [hC v hs,Uu hv h hc hs]
theorem CpC.start {X:List (List Ar)} {D:List Int} {B:List Bool} (hv:Bv X=true) (h:CpOk X D) (hB:DvL X B):CpC X D (Xv B X.length):=by
 intro v hs
 obtain ⟨_,hcv,p3,p4,_⟩:=BN hv h hs
 rw [Jq hcv,Jq hs]
 have e:B.getD (XG D v) false=B.getD v false:=by
  rw [Bool.eq_iff_iff,hB.2 _ hcv,hB.2 _ hs]
  exact ⟨fun ⟨g,q1,q2⟩=>⟨g,p3.trans q1,q2⟩,fun ⟨g,q1,q2⟩=>⟨g,p4.trans q1,q2⟩⟩
 unfold Xu
 rw [e]
theorem KeyOf.cp {X:List (List Ar)} {D cl L:List Int} (hv:Bv X=true) (h:CpOk X D) (hC:CpC X D cl) {v:Nat} (hs:v<X.length) (hk:KeyOf X cl (XG D v) L):KeyOf X cl v L:=by
 obtain ⟨t,V,e1,e2,e3,e4,e5⟩:=hk.ex
 refine ⟨t,V,by rw [<- hC v hs];exact e1,e2.iff fun i _=>O6 hv h hs,e3,fun p hp=>?_,fun e i hr=>e5 e i ((LU hv h hs).2 hr)⟩
 obtain ⟨a1,a2,i,a3⟩:=e4 p hp
 exact ⟨a1,a2.iff fun i _=>LU hv h hs,i,(LU hv h hs).1 a3⟩
theorem Uv {X:List (List Ar)} {cl:List Int} (hv:Bv X=true) {s i:Nat} {e:Int} (h:RV X cl s e i):0<=e/\e<=1025:=by
 obtain ⟨_,u,hu,_,a,ha,rfl,_⟩:=h
 have:=EJ hv hu ha
 exact ⟨this.1,this.2.1⟩
theorem KeyOf.mk2 {X:List (List Ar)} {cl:List Int} (hv:Bv X=true) (hc:Nrm X.length cl) (hn:X.length<=64) {s w:Nat} {H:List Ob} {V:List (Int × Nat × Nat)} {VL:List (Int × Nat)} (hw:WS w (RT X cl s)) (hV:VSt H 6 V (RV X cl s)) (h1:WI (VL.map (·.1))) (h2:∀ q,q∈VL↔∃ p∈V,q=(p.1,p.2.2)):KeyOf X cl s (FM (cl.getD s 0) w VL):=by
 refine ⟨w,VL,rfl,hw,h1,fun q hq=>?_,fun e i hr=>?_⟩
 rotate_left
 ·have hi:=UY hv hc hr
  obtain ⟨p,hp,rfl,_⟩:=(hV.ex e i (by omega)).2 hr
  exact List.mem_map.2 ⟨_,(h2 _).2 ⟨p,hp,rfl⟩,rfl⟩
 obtain ⟨p,hp,rfl⟩:=(h2 q).1 hq
 obtain ⟨o1,o2,o3,i,hi,ho⟩:=hV.ob p hp
 have hex:=(hV.ex p.1 i hi).1 ⟨p,hp,rfl,ho⟩
 refine ⟨Uv hv hex,⟨o3,fun i hi=>?_⟩,i,hex⟩
 rw [<- hV.ex p.1 i hi]
 constructor
 ·intro hb;exact ⟨p,hp,rfl,hb⟩
 rintro ⟨p',hp',e1,hb⟩
 rw [<- Gv hV.nd hp' hp e1];exact hb
theorem KeyOf.nn {X:List (List Ar)} {cl L:List Int} (hc:Nrm X.length cl) (hn:X.length<=64) {s:Nat} (hs:s<X.length) (h:KeyOf X cl s L):UX L:=by
 obtain ⟨t,V,rfl,e2,e3,e4,e5⟩:=h.ex
 have hcl:=hc.len
 have hm:cl.getD s 0∈cl:=by rw [gE2,gE1 (by omega)];exact gE6 _
 have hr:=hc.rng _ hm
 intro x hx
 unfold FM at hx
 simp only [List.mem_cons,List.mem_append,List.mem_flatMap] at hx
 rcases hx with rfl | rfl | hx | ⟨p,hp,rfl | rfl | hx⟩
 ·omega
 ·have:=CP t;omega
 ·have:=KW x hx;omega
 ·have:=(e4 p hp).1;omega
 ·have:=CP p.2;omega
 have:=KW x hx;omega
theorem V4 {X:List (List Ar)} {cl:List Int} {ky:List Value} (hv:Bv X=true) (hn:X.length<=64) (hc:Nrm X.length cl) (hl:ky.length=X.length) (h:∀ s,s<X.length->∃ L,ky[s]?=some (Jx L)/\KeyOf X cl s L):Tu ky (Xj (C9 X) cl):=by
 intro a b ha hb
 rw [hl] at ha hb
 obtain ⟨L,h1,h2⟩:=h a ha
 obtain ⟨M,h3,h4⟩:=h b hb
 rw [gE2,h1,gE2,h3,Option.getD_some,Option.getD_some,Sq (h2.nn hc hn ha) (h4.nn hc hn hb)]
 congr 1
 rw [decide_eq_decide]
 exact KeyOf.iff hv hn hc ha hb h2 h4
theorem HS.setK {r0:Row} {n:Nat} {H:List Ob} {tc vc:List C} {ky:List Value} (h:HS r0 ⟨9,1,true,ZG ky⟩ n H tc vc) (ky':List Value):HS r0 ⟨9,1,true,ZG ky'⟩ n (H.set 1 (.r ⟨9,1,true,ZG ky'⟩)) tc vc:=
 ⟨by rw [gE5 (by omega)];exact h.h0,gEc (Br h.hx),by rw [gE5 (by omega)];exact h.h1,by rw [gE5 (by omega)];exact h.h2,by rw [gE5 (by omega)];exact h.h3,by rw [gE5 (by omega)];exact h.h4,C2 h.ok (y:=.r ⟨9,1,true,ZG ky'⟩) (by show (ZG ky').all C.pl=true;simp [ZG,C.pl]) 1⟩
theorem TA.set1 {X:List (List Ar)} {cl:List Int} {Q:List Nat} {k:Nat} {H:List Ob} {tc:List C} (h:TA X cl Q k H tc) (ob:Ob):TA X cl Q k (H.set 1 ob) tc:=⟨h.1,h.2.1,fun j c hj hc=>by
 obtain ⟨y,w,a,b,d,e⟩:=h.2.2 j c hj hc
 exact ⟨y,w,a,b,by rw [gE5 (by omega)];exact d,e⟩⟩
theorem TB.set1 {X:List (List Ar)} {cl:List Int} {Q:List Nat} {k:Nat} {H:List Ob} {vc:List C} (h:TB X cl Q k H vc) (ob:Ob):TB X cl Q k (H.set 1 ob) vc:=⟨h.1,h.2.1,fun j c hj hc=>by
 obtain ⟨m,V,a,a2,b,d⟩:=h.2.2 j c hj hc
 refine ⟨m,V,a,a2,by rw [gE5 (by omega)];exact b,d.nd,d.nk,fun p hp=>?_,d.ex⟩
 obtain ⟨q1,q2,q3⟩:=d.ob p hp
 exact ⟨q1,by rw [gE5 (by omega)];exact q2,q3⟩⟩
theorem Uw (ky:List Value):(ZG ky).all C.pl=true:=by simp [ZG,C.pl]
section
variable {o : Oper} {st : ST} {K : ST -> Prop} {α : Type} [DecidableEq α]
theorem H4 {x:Operand} {ts:Array TypeId} {a:Nat} {ky:List Value} (g:Nat->α) (hky:Tu ky g) (hn:ky.length<=1000000) (hd:VJ o st.n=true) (ho:o.op=.call { callee:=.value (.func 76),args:=#[x],argTypes:=ts }) (hx:st.ev x=.a (.c (.s a ky.length))) (ha:st.hp[a]?=some (.r ⟨9,1,true,ZG ky⟩))
  (hnb:Fi [a] st.tm=st.tm) (h:K ({ st with hp:=st.hp++[AA (Xh g ky.length).1] }.put o.dst (.tup [.c (.s st.hp.length ky.length),.c (.v (.int .i64 (Xh g ky.length).2))]))):Stp Tryz.prog o st K:=by
 have i1:idx [a] a 0=some 0:=by simp [idx]
 have hren:(Ob.r ⟨9,1,true,ZG ky⟩).ren [a]=.r ⟨9,1,true,ZG ky⟩:=by simp [Ob.ren,Fd]
 refine AH (ids:=[]) [a] (SN ky g hky hn) hd ho rfl (by kernel_rfl) rfl (by simp [Br ha]) ?_ ?_ ?_ ?_
 ·simp [hx,Em,AV.ren,A0.ren,C.ren,i1]
 ·simp only [VS,List.map_cons,List.map_nil,D0 ha,hren]
 ·rintro r outs ⟨rfl,rfl⟩;rfl
 rintro r outs ⟨rfl,rfl⟩
 have e:st.back [a] [.r ⟨9,1,true,ZG ky⟩,AA (Xh g ky.length).1]={ st with hp:=st.hp++[AA (Xh g ky.length).1] }:=by
  unfold ST.back
  rw [hnb]
  have e2:(Ob.r ⟨9,1,true,ZG ky⟩).up (VV [a] st.hp.length)=.r ⟨9,1,true,ZG ky⟩:=by simp [Ob.up,Uq]
  simp only [List.map_cons,List.map_nil,HG,e2,Cb]
  rw [FN ha]
 rw [e]
 have e3:(AV.tup [.c (.s 1 ky.length),.c (.v (.int .i64 (Xh g ky.length).2))]).up (VV [a] st.hp.length)=.tup [.c (.s st.hp.length ky.length),.c (.v (.int .i64 (Xh g ky.length).2))]:=by simp [AV.up,A0.up,C.up,VV]
 rw [e3];exact h
end
set_option maxHeartbeats 8000000 in
theorem T6 (X:List (List Ar)) (D:List Int) (Q:List Nat) (dv:List Bool) (hv:Bv X=true) (hn:X.length<=64) (hr:∀ r∈X,r.length<=1000000) (hD:CpOk X D) (hQ:Hr (Xy (XG D) X X.length) X.length (XG D) Q) (hB:DvL X dv):FC Tryz.prog 41 [.a (.c (.p 0 0))] [.r (Y9 X D (Q.map Int.ofNat) (Y6 (XG D) X.length) dv)] (fun r o=>∃ c,WkC X c/\Nrm X.length c/\r=As c/\o=[.r (Y9 X D (Q.map Int.ofNat) (Y6 (XG D) X.length) dv)]):=by
 refine A6 Tryz.func41 rfl (by rw [Tryz.ntmps41];simp) ?_
 rw [Tryz.ntmps41]
 have hlo:BE X=true:=gEg (gE4 hv).1
 have h1:1<=X.length:=(gE4 hlo).1
 have hDl:=hD.1
 have hBl:=hB.1
 simp only [Bf,Y9]
 (refine Wu (an @A3 (an @BD @hBl)) ?_;(repeat clear hK K);repeat refine kq fun K hK=>?_)
 have e0:List.replicate X.length (C.v (.string { data:=#[] }))=ZG (Y3 Yh Yi dv X.length 0):=by rw [Qd];simp [ZG,Yi]
 rw [e0]
 refine A8 (fun k:Nat=>{ tm:=[(0,.a (.c (.p 0 0))),(3,.a (.c (.s 1 X.length))),(23,.a (.c (.t 1 (X6 dv)))),(24,.i X.length),(25,.i k)],hp:=[.r (Y9 X D (Q.map Int.ofNat) (Y6 (XG D) X.length) dv),.r ⟨9,1,true,ZG (Y3 Yh Yi dv X.length k)⟩],n:=86,pin:=1 }) (fun k=>k<=X.length) (fun k=>X.length - k) 0 ?_ ?_ ?_
 ·omega
 ·simp only [Y9]
  exact WE
 rintro k hk K hK
 simp only [Y9]
 by_cases hlt:k<X.length
 ·have d1:decide ((k:Int)<(X.length:Int))=true:=by simpa using hlt
  have gB:(X6 dv)[k]?=some (.v (.bool (dv.getD k false))):=F7 (by rw [gE2,gE1 (by omega)];rfl)
  have hkt:=Qe (kd:=Yh) (ke:=Yi) (B:=dv) (n:=X.length) (k:=k)
  have hkf:=NV (kd:=Yh) (ke:=Yi) (B:=dv) (n:=X.length) (k:=k)
  have hkl:=Hx Yh Yi dv X.length k
  generalize dv.getD k false=b at *
  (refine Wu @d1 ?_;(repeat clear hK K);repeat refine kq fun K hK=>?_)
  refine WB ?_
  (refine Wu (an @BD (an @hBl @gB)) ?_;(repeat clear hK K);repeat refine kq fun K hK=>?_)
  cases b with
  | true=>
   have hkt:=hkt rfl
   refine WB ?_
   have hks:(ZG (Y3 Yh Yi dv X.length k)).set k (C.v (Value.string { data:=#[100,105,118,101,114,103,101,110,116] }))=ZG (Y3 Yh Yi dv X.length (k+1)):=by rw [<- hkt];exact Jz _ _ _
   (refine Cn (an @Gt (an @hkl @hks)) ?_;(repeat clear hK K);repeat refine kq fun K hK=>?_)
   refine WD ?_
   refine hK _ (k+1) (by omega) (by omega) ?_
   simp only [Y9]
   exact WE
  | false=>
   have hkf:=hkf rfl
   refine WC ?_
   (refine Wt ?_;(repeat clear hK K);repeat refine kq fun K hK=>?_)
   refine WD ?_
   refine hK _ (k+1) (by omega) (by omega) ?_
   rw [hkf]
   simp only [Y9]
   exact WE
 have d1:decide ((k:Int)<(X.length:Int))=false:=by simpa using hlt
 have hke:k=X.length:=by omega
 rw [hke] at d1
 rw [hke]
 have hko:=Uh (kd:=Yh) (ke:=Yi) (by kernel_rfl) (by kernel_rfl) (by kernel_rfl) (by kernel_rfl) dv X.length
 have hkl:=Hx Yh Yi dv X.length X.length
 obtain ⟨hnm,_⟩:=U5 (B:=dv) X.length h1
 have hN0:=NC dv h1
 have hC0:=CpC.start hv hD hB
 have hc0:F9 X.length (Xv dv X.length)=(Xh (fun s=>dv.getD s false) X.length).2:=by rw [<- hnm,NA]
 generalize Y3 Yh Yi dv X.length X.length=ky0 at *
 (refine Wu @d1 ?_;(repeat clear hK K);repeat refine kq fun K hK=>?_)
 refine WC ?_
 (refine Wx ?_;repeat clear hK K)
 (refine Wt ?_;(repeat clear hK K);repeat refine kq fun K hK=>?_)
 (refine Ai rfl ?_;intro K1 hK1;refine H4 (a:=1) (ky:=ky0) (fun s=>dv.getD s false) hko (by omega) rfl rfl (by simp only [go_sem,hkl]) rfl (by simp [Fi,AV.nb,A0.nb,C.nb]) ?_;simp only [go_sem];refine hK1 _ ?_;clear hK1 K1)
 rw [hkl,hnm,<- hc0]
 clear hnm hc0
 generalize hc00:Xv dv X.length=c0 at *
 have hN0l:=hN0.len
 (refine Wt ?_;(repeat clear hK K);repeat refine kq fun K hK=>?_)
 simp only [AA,List.length_cons,List.length_nil,Nat.zero_add,List.cons_append,List.nil_append]
 have hf0:(if X.length<=(Ab c0).length then C.t 1 ((Ab c0).take X.length) else C.u)=C.t 1 (Ab c0):=by rw [if_pos (by rw [A4];omega),gE7 (by rw [A4];omega)]
 (refine Au (Bg (r:=⟨3,1,true,A7 c0⟩) 2 (Ab c0) rfl (EM _) (show 0<(1:Nat) by omega)) ?_;simp only [ST.frz,A0.frz,AV.frz,C.frz,Nat.le_refl,List.set_cons_zero,List.set_cons_succ,go_sem,hf0])
 have hSl:=(Ht hv (by omega)).1
 refine A8 (fun x:Nat × List Int × List Value=>{ tm:=[(0,.a (.c (.p 0 0))),(3,.a (.c (.s 1 X.length))),(6,.a (.c (.t 1 (Ab x.2.1)))),(7,.i (F9 X.length x.2.1))],hp:=[.r (Y9 X D (Q.map Int.ofNat) (Y6 (XG D) X.length) dv),.r ⟨9,1,true,ZG x.2.2⟩],n:=86,pin:=1 }) (fun x=>x.2.1=Xl (C9 X) c0 x.1/\Nrm X.length x.2.1/\CpC X D x.2.1/\x.2.2.length=X.length) (fun x=>X.length - F9 X.length x.2.1) (0,c0,ky0) ?_ ?_ ?_
 ·exact ⟨rfl,hN0,hC0,hkl⟩
 ·refine Le.trans (A9 [0,1] rfl rfl) ?_
  (try simp only [List.set_nil,List.take_nil,List.take_zero,List.map_append,go_sem])
  (try simp only [Fd])
  simp only [Y9]
  exact WE
 clear hk hlt d1 hke hko
 rintro ⟨j,nw,ky⟩ ⟨hit,hN,hC,hkyl⟩ K hK
 simp only at hit hN hC hkyl
 simp only
 have hcn:=KK X.length nw
 have hNl:=hN.len
 have hcn1:1<=F9 X.length nw:=by
  have:=(Cx (fun s=>nw.getD s 0) X.length).rng 0 (by omega)
  unfold F9;omega
 have hnn:=NB (C9 X) nw
 have hnl:=U4 (S:=C9 X) (by rw [hSl];exact hN)
 rw [hSl] at hnn hnl
 have hcn2:=KK X.length (Xk (C9 X) nw)
 have hnc:F9 X.length (Xk (C9 X) nw)=(Xh (Xj (C9 X) nw) X.length).2:=by
  have:=NA (Xj (C9 X) nw) X.length
  unfold Xk;rw [hSl];exact this
 have hnc1:(Xh (Xj (C9 X) nw) X.length).1=Xk (C9 X) nw:=by unfold Xk;rw [hSl]
 have hCn:=hC.next hv (by omega) hD hN
 (refine Wt ?_;(repeat clear hK K);repeat refine kq fun K hK=>?_)
 (refine Ai rfl ?_;intro K1 hK1;refine Di (f:=77) (ids:=[]) (R:=fun r o=>r=.a (.c (.p 5 0))/\∃ tc vc,HS (Y9 X D (Q.map Int.ofNat) (Y6 (XG D) X.length) dv) ⟨9,1,true,ZG ky⟩ X.length o tc vc/\TA X nw Q Q.length o tc/\TB X nw Q Q.length o vc) rfl rfl (by simp only [go_sem]) (by kernel_rfl) (Un X D nw Q dv (F9 X.length nw) ⟨9,1,true,ZG ky⟩ (Uw ky) (Fd ky) hv hn hr hD hQ hN hcn1 (by omega)) (fun r outs h=>Hz h.2.choose_spec.choose_spec.1.ok) ?_)
 rintro r G ⟨rfl,tc,vc,hH,hT,hTB⟩
 (simp only [go_sem];refine hK1 _ ?_;clear hK1 K1)
 have gs:=hH.h0
 (refine Wu (an @gs (an @GC (an @A4 @hDl))) ?_;(repeat clear hK K);repeat refine kq fun K hK=>?_)
 refine A8 (fun x:Nat × List Ob × List Value=>{ tm:=[(0,.a (.c (.p 0 0))),(3,.a (.c (.s 1 X.length))),(6,.a (.c (.t 1 (Ab nw)))),(7,.i (F9 X.length nw)),(8,.a (.c (.p 5 0))),(47,.a (.c (.t 1 (Ab D)))),(48,.i X.length),(49,.i x.1)],hp:=x.2.1,n:=86,pin:=1 }) (fun x=>x.1<=X.length/\x.2.2.length=X.length/\(∀ s,s<x.1->∃ L,x.2.2[s]?=some (Jx L)/\KeyOf X nw s L)/\HS (Y9 X D (Q.map Int.ofNat) (Y6 (XG D) X.length) dv) ⟨9,1,true,ZG x.2.2⟩ X.length x.2.1 tc vc/\TA X nw Q Q.length x.2.1 tc/\TB X nw Q Q.length x.2.1 vc) (fun x=>X.length - x.1) (0,G,ky) ?_ ?_ ?_
 ·exact ⟨by simp,hkyl,fun s hs=>by simp at hs,hH,hT,hTB⟩
 ·exact WE
 clear hH hT hTB gs hkyl
 rintro ⟨k,G,ky⟩ ⟨hk,hkyl,hkys,hH,hT,hTB⟩ K hK
 simp only at hk hkyl hkys hH hT hTB
 simp only
 by_cases hlk:k<X.length
 rotate_left
 ·have d2:decide ((k:Int)<(X.length:Int))=false:=by simpa using hlk
  have hke:k=X.length:=by omega
  have hko:=V4 hv hn hN hkyl (fun s hs=>hkys s (by omega))
  have g0:=hH.h0
  have g1:=hH.hx
  (refine Wu @d2 ?_;(repeat clear hK K);repeat refine kq fun K hK=>?_)
  refine WC ?_
  (refine Wx ?_;repeat clear hK K)
  (refine Wt ?_;(repeat clear hK K);repeat refine kq fun K hK=>?_)
  (refine Ai rfl ?_;intro K1 hK1;refine H4 (a:=1) (ky:=ky) (Xj (C9 X) nw) hko (by omega) rfl rfl (by simp only [go_sem,hkyl]) g1 (by simp [Fi,AV.nb,A0.nb,C.nb]) ?_;simp only [go_sem];refine hK1 _ ?_;clear hK1 K1)
  rw [hkyl,hnc1,<- hnc]
  (refine Wt ?_;(repeat clear hK K);repeat refine kq fun K hK=>?_)
  have hG6:=Br hH.h4
  obtain ⟨lg,hlg⟩:∃ l,G.length=l:=⟨_,rfl⟩
  rw [hlg] at hG6
  simp only [hlg]
  have gn:=Bp G (AA (Xk (C9 X) nw))
  rw [hlg] at gn
  have g0':=(Pre.push G (AA (Xk (C9 X) nw))).at g0
  have g1':=(Pre.push G (AA (Xk (C9 X) nw))).at g1
  generalize G++[AA (Xk (C9 X) nw)]=G2 at *
  refine Au (BG (tm:=[(0,.a (.c (.p 0 0))),(3,.a (.c (.s 1 X.length))),(6,.a (.c (.t 1 (Ab nw)))),(7,.i (F9 X.length nw)),(11,.a (.c (.s lg X.length))),(12,.i (F9 X.length (Xk (C9 X) nw))),(82,.b (((F9 X.length (Xk (C9 X) nw):Nat):Int) == ((F9 X.length nw:Nat):Int)))]) ?_) ?_
  ·simp only [Dg,go_sem];try simp
  have i1:idx [0,1,lg] 1 0=some 1:=by simp [idx]
  have i2:idx [0,1,lg] lg 0=some 2:=by
   have e1:¬ 0=lg:=by omega
   have e2:¬ 1=lg:=by omega
   simp [idx,e1,e2]
  refine Au (A9 [0,1,lg] ?_ rfl) ?_
  ·have e1:¬ 0=lg:=by omega
   have e2:¬ 1=lg:=by omega
   simp [Ba];omega
  have i0:idx [0,1,lg] 0 0=some 0:=rfl
  have hr1:(Ob.r (Y9 X D (Q.map Int.ofNat) (Y6 (XG D) X.length) dv)).ren [0,1,lg]=.r (Y9 X D (Q.map Int.ofNat) (Y6 (XG D) X.length) dv):=by simp [Ob.ren,Y9,C.ren]
  have hr2:(Ob.r ⟨9,1,true,ZG ky⟩).ren [0,1,lg]=.r ⟨9,1,true,ZG ky⟩:=by simp [Ob.ren,Fd]
  have hr3:=Gw (Xk (C9 X) nw) [0,1,lg]
  simp only [ST.pick,List.map_cons,List.map_nil,AV.ren,A0.ren,C.ren,AV.i,AV.b,i0,i1,i2,D0 g0',D0 g1',D0 gn,hr1,hr2,hr3]
  by_cases hceq:F9 X.length (Xk (C9 X) nw)=F9 X.length nw
  ·have hfx:Xk (C9 X) nw=nw:=Decidable.byContradiction fun h=>by have:=hnl h;omega
   have d4:(((F9 X.length (Xk (C9 X) nw):Nat):Int) == ((F9 X.length nw:Nat):Int))=true:=by rw [hceq];simp
   simp only [d4]
   refine WB ?_
   (refine Wt ?_;(repeat clear hK K);repeat refine kq fun K hK=>?_)
   ((try refine Av ?_);(try simp only [Ae,AF]);refine B6 (A9 [0] rfl rfl) ?_;(try simp only [List.set_nil,List.take_nil,List.take_zero,List.map_append,go_sem]);((try refine Av ?_);(try refine Aa ?_);(try simp only [Ae,AF]);refine Bj (by first | exact .inl rfl | exact .inr rfl) rfl ?_;simp only [VU,Dy,Du,DL,Tryz.results41,go_sem,true_and,and_true,As,Y9]))
   exact ⟨nw,⟨dv,hB,j,by rw [hc00];exact hit,hfx⟩,hN,rfl⟩
  have hne:Xk (C9 X) nw ≠ nw:=fun h=>hceq (by rw [h])
  have hlt2:=hnl hne
  have d4:(((F9 X.length (Xk (C9 X) nw):Nat):Int) == ((F9 X.length nw:Nat):Int))=false:=by simp only [beq_eq_false_iff_ne,ne_eq];omega
  simp only [d4]
  refine WC ?_
  (refine Wt ?_;(repeat clear hK K);repeat refine kq fun K hK=>?_)
  refine WD ?_
  refine hK _ (j+1,Xk (C9 X) nw,ky) ⟨?_,hnn,hCn,hkyl⟩ (by simp only;omega) ?_
  ·simp only
   rw [show Xl (C9 X) c0 (j+1)=Xk (C9 X) (Xl (C9 X) c0 j) from rfl,<- hit]
  simp only
  have hw2l:=hnn.len
  generalize hw2:Xk (C9 X) nw=w2 at *
  have hf0:(if X.length<=(Ab w2).length then C.t 1 ((Ab w2).take X.length) else C.u)=C.t 1 (Ab w2):=by rw [if_pos (by rw [A4];omega),gE7 (by rw [A4];omega)]
  simp only [AA]
  (refine SO (Bg (r:=⟨3,1,true,A7 w2⟩) 2 (Ab w2) rfl (EM _) (show 0<(1:Nat) by omega)) ?_;simp only [ST.frz,A0.frz,AV.frz,C.frz,Nat.le_refl,List.set_cons_zero,List.set_cons_succ,go_sem,hf0])
  refine Le.trans (A9 [0,1] rfl rfl) ?_
  (try simp only [List.set_nil,List.take_nil,List.take_zero,List.map_append,go_sem])
  (try simp only [Fd])
  simp only [Y9]
  exact WE
 have d2:decide ((k:Int)<(X.length:Int))=true:=by simpa using hlk
 obtain ⟨gD0,hfk,hr1,hr2,hff⟩:=BN hv hD hlk
 have gD:=Am gD0
 have hle:XG D k<=k:=by
  obtain ⟨m,e1,_,_,e4⟩:=hD.2 k hlk
  rw [NG gD0] at e1
  have:=e4 k (.refl _) (.refl _)
  omega
 have g1:=hH.hx
 have hcl:(ZG ky).length=X.length:=by rw [Gt,hkyl]
 (refine Wu @d2 ?_;(repeat clear hK K);repeat refine kq fun K hK=>?_)
 refine WB ?_
 (refine Wu (an @gD (an @A4 @hDl)) ?_;(repeat clear hK K);repeat refine kq fun K hK=>?_)
 by_cases hek:XG D k=k
 rotate_left
 ·have d3:((k:Int) == ((XG D k:Nat):Int))=false:=by simp only [beq_eq_false_iff_ne,ne_eq];omega
  simp only [d3]
  obtain ⟨L,q1,q2⟩:=hkys (XG D k) (by omega)
  have hko:=q2.cp hv hD hC hlk
  obtain ⟨sb,hsb⟩:∃ b,Jx L=Value.string b:=⟨_,rfl⟩
  rw [hsb] at q1
  have gk:(ZG ky)[XG D k]?=some (.v (.string sb)):=by simp [ZG,q1]
  refine WC ?_
  (refine Cn (an @g1 (an @hcl (an @gk @Jz))) ?_;(repeat clear hK K);repeat refine kq fun K hK=>?_)
  refine BC (fun G3=>HS (Y9 X D (Q.map Int.ofNat) (Y6 (XG D) X.length) dv) ⟨9,1,true,ZG (ky.set k (.string sb))⟩ X.length G3 tc vc/\TA X nw Q Q.length G3 tc/\TB X nw Q Q.length G3 vc) ?_ ?_
  ·exact ⟨hH.setK _,hT.set1 _,hTB.set1 _⟩
  rintro G3 ⟨hH3,hT3,hTB3⟩
  simp only
  refine WD ?_
  refine hK _ (k+1,G3,ky.set k (.string sb)) ⟨by simp only;omega,by simp only;rw [List.length_set];exact hkyl,?_,hH3,hT3,hTB3⟩ (by simp only;omega) ?_
  rotate_left
  ·exact WE
  intro s hs
  simp only at hs ⊢
  by_cases e:s=k
  ·subst e
   exact ⟨L,by rw [hsb,gEc (by omega)],hko⟩
  obtain ⟨M,q1,q2⟩:=hkys s (by omega)
  exact ⟨M,by rw [gE5 (Ne.symm e)];exact q1,q2⟩
 rw [hek] at gD ⊢
 have d3:((k:Int) == (k:Int))=true:=by simp
 simp only [d3]
 obtain ⟨j',hj',hQj⟩:=List.getElem_of_mem ((hQ.2.1 k).2 ⟨hlk,hek⟩)
 obtain ⟨x,w,tx1,tx2,tx3,tx4⟩:=hT.2.2 j' k hj' (by rw [gE1 hj',hQj])
 obtain ⟨m,V,ty1,ty2,ty3,ty4⟩:=hTB.2.2 j' k hj' (by rw [gE1 hj',hQj])
 have gW:=Am (show nw[k]?=some (nw.getD k 0) from by rw [gE2,gE1 (by omega)];rfl)
 have hVl:V.length<=2000:=by
  have h:=Da (m:=(List.range 1026).map Int.ofNat) ty4.nd (fun e he=>by
   obtain ⟨p,hp,rfl⟩:=List.mem_map.1 he
   obtain ⟨_,_,_,i,hi,ho⟩:=ty4.ob p hp
   have hr3:=Uv hv ((ty4.ex p.1 i hi).1 ⟨p,hp,rfl,ho⟩)
   exact List.mem_map.2 ⟨p.1.toNat,by rw [List.mem_range];omega,by simp only [Int.ofNat_eq_natCast];omega⟩)
  rw [List.length_map,List.length_map,List.length_range] at h
  omega
 have hkm:=fun VL h1 h2=>KeyOf.mk2 (VL:=VL) hv hN hn tx4 ty4 h1 h2
 generalize nw.getD k 0=x0 at *
 refine WB ?_
 (refine Wu (an @gW (an @A4 @hNl)) ?_;(repeat clear hK K);repeat refine kq fun K hK=>?_)
 (refine Ai rfl ?_;intro K1 hK1;refine Di (f:=78) (ids:=[]) (R:=fun r o=>(∃ VL:List (Int × Nat),WI (VL.map fun q:Int × Nat=>q.1)/\(∀ q,q∈VL↔∃ p∈V,q=(p.1,p.2.2))/\r=.a (.c (.v (Jx (FM x0 w VL)))))/\Pre G o/\o.all Cd=true) rfl rfl (by simp only [go_sem]) (by kernel_rfl) (SM G 5 3 4 X.length k x m w x0 tc vc V hH.h4 hH.h2 hH.h3 hT.1 hTB.1 (by omega) hlk tx1 tx3 tx4.1 ty1 ty3 ty4.nd (fun p hp=>by obtain ⟨_,a2,a3,_⟩:=ty4.ob p hp;exact ⟨a2,a3⟩) hVl hH.ok) (fun r outs h=>Hz h.2.2) ?_)
 rintro r G2 ⟨⟨VL,hV1,hV2,rfl⟩,hP2,hok2⟩
 have hko:=hkm VL hV1 hV2
 obtain ⟨L,hL⟩:∃ L,FM x0 w VL=L:=⟨_,rfl⟩
 rw [hL] at hko ⊢
 obtain ⟨sb,hsb⟩:∃ b,Jx L=Value.string b:=⟨_,rfl⟩
 rw [hsb]
 (simp only [go_sem];refine hK1 _ ?_;clear hK1 K1)
 have hH2:=hH.pre hP2 hok2
 have g2:=hP2.at g1
 (refine Cn (an @g2 (an @hcl @Jz)) ?_;(repeat clear hK K);repeat refine kq fun K hK=>?_)
 refine BC (fun G3=>HS (Y9 X D (Q.map Int.ofNat) (Y6 (XG D) X.length) dv) ⟨9,1,true,ZG (ky.set k (.string sb))⟩ X.length G3 tc vc/\TA X nw Q Q.length G3 tc/\TB X nw Q Q.length G3 vc) ?_ ?_
 ·exact ⟨hH2.setK _,(hT.pre hP2).set1 _,(hTB.pre hP2).set1 _⟩
 rintro G3 ⟨hH3,hT3,hTB3⟩
 simp only
 refine WD ?_
 refine hK _ (k+1,G3,ky.set k (.string sb)) ⟨by simp only;omega,by simp only;rw [List.length_set];exact hkyl,?_,hH3,hT3,hTB3⟩ (by simp only;omega) ?_
 rotate_left
 ·exact WE
 intro s hs
 simp only at hs ⊢
 by_cases e:s=k
 ·subst e
  exact ⟨L,by rw [hsb,gEc (by omega)],hko⟩
 obtain ⟨M,q1,q2⟩:=hkys s (by omega)
 exact ⟨M,by rw [gE5 (Ne.symm e)];exact q1,q2⟩
theorem WkC.uniq {R:List (List Ar)} {c d:List Int} (h1:WkC R c) (h2:WkC R d):c=d:=by
 obtain ⟨B,b1,b2⟩:=h1
 obtain ⟨B',b3,b4⟩:=h2
 have e:=b1.uniq b3
 subst e
 exact b2.uniq b4
theorem YA {A R:List (List Ar)} (hA:Bv A=true) (hv:Bv R=true) (hn:A.length+R.length<=100) (ht:Bw A+Bw R<=1000):Bv (Eo A R)=true:=NH (.inr hA) hv (by show A.length+R.length<=16384;omega) (by show Bw A+Bw R<=262144;omega)
theorem YG {c:List Int} {i:Nat} (h:i<c.length):(Ab c)[i]?=some (.v (.int .i64 (c.getD i 0))):=Am (by rw [gE2,gE1 h];rfl)
set_option maxHeartbeats 2000000 in
theorem Ux (R:List (List Ar)) (hv:Bv R=true) (hn:R.length<=64) (hr:∀ r∈R,r.length<=1000000):FC Tryz.prog 20 [B7 R] [] (fun r o=>∃ c,WkC R c/\Nrm R.length c/\o=[]/\r=As c):=by
 refine A6 Tryz.func20 rfl (by rw [Tryz.ntmps20];simp) ?_
 rw [Tryz.ntmps20]
 simp only [Bf,B7]
 have hlo:BE R=true:=gEg (gE4 hv).1
 have hbL:L6 [R]=R:=Q4 R
 (refine Wt ?_;(repeat clear hK K);repeat refine kq fun K hK=>?_)
 (refine Wy (CD R (by omega) (fun r h=>by have:=hr r h;omega)) ?_;intro K1 hK1)
 rintro _ _ ⟨rfl,rfl⟩
 (refine Wz ?_;clear hK1 K1)
 rw [hv]
 (refine Wu @Bool.not_true ?_;(repeat clear hK K);repeat refine kq fun K hK=>?_)
 refine WC ?_
 (refine Wt ?_;(repeat clear hK K);repeat refine kq fun K hK=>?_)
 have hf:(if 1<=(Ya [R]).length then C.t 1 ((Ya [R]).take 1) else C.u)=C.t 1 (Ya [R]):=rfl
 (refine BS (Bg (r:=⟨25,1,true,[.t 1 (Ah R)]⟩) 1 (Ya [R]) rfl ⟨.inl rfl,trivial⟩ (show 0<(1:Nat) by omega)) ?_;simp only [ST.frz,A0.frz,AV.frz,C.frz,Nat.le_refl,List.set_cons_zero,List.set_cons_succ,go_sem,hf])
 have hns:=SI [R] (by simp) (by simp) (by simpa using hv) (by simpa using hr) (by have:=(gE4 hlo).2.1;simpa using this) (by have:=(gE4 hlo).2.2.1;simpa using this)
 rw [hbL] at hns
 (refine Wy hns ?_;intro K1 hK1)
 rintro _ _ ⟨rfl,D,Q,B,_,hD,hB,hQ,rfl⟩
 simp only [Y9]
 (refine Wz ?_;clear hK1 K1)
 (refine Wt ?_;(repeat clear hK K);repeat refine kq fun K hK=>?_)
 (refine Ai rfl ?_;intro K1 hK1;refine AH (ids:=[]) [2] (T6 R D Q B hv hn hr hD hQ hB) rfl rfl (by simp only [go_sem]) (by first | assumption | kernel_rfl) rfl rfl (by (simp only [List.map_append,List.append_nil,go_sem]) <;> rfl) (by (simp only [VS,Y9,go_sem]) <;> rfl) ?_ ?_)
 ·rintro _ _ ⟨c,_,_,rfl,rfl⟩;rfl
 rintro _ _ ⟨c,hc,hN,rfl,rfl⟩
 simp only [Y9]
 (refine Wz ?_;clear hK1 K1)
 (refine Wt ?_;(repeat clear hK K);repeat refine kq fun K hK=>?_)
 ((try refine Av ?_);(try simp only [Ae,AF]);refine B6 (A9 [] rfl rfl) ?_;(try simp only [List.set_nil,List.take_nil,List.take_zero,List.map_append,go_sem]);((try refine Av ?_);(try refine Aa ?_);(try simp only [Ae,AF]);refine Bj (by first | exact .inl rfl | exact .inr rfl) rfl ?_;simp only [VU,Dy,Du,DL,Tryz.results20,go_sem,true_and,and_true,As]))
 exact ⟨c,hc,hN,rfl⟩
noncomputable def EqW (A R:List (List Ar)):Bool:=@decide (Bv A=true/\Bv R=true/\∃ c,WkC (Eo A R) c/\c.getD 0 0=c.getD A.length 0) (Classical.propDecidable _)
theorem EqW.of {A R:List (List Ar)} (hA:Bv A=true) (hv:Bv R=true) {c:List Int} (hc:WkC (Eo A R) c):decide (c.getD 0 0=c.getD A.length 0)=EqW A R:=by
 by_cases h:c.getD 0 0=c.getD A.length 0
 ·rw [gEg h]
  exact (@decide_eq_true _ (Classical.propDecidable _) ⟨hA,hv,c,hc,h⟩).symm
 rw [decide_eq_false h]
 refine (@decide_eq_false _ (Classical.propDecidable _) ?_).symm
 rintro ⟨_,_,d,hd,q⟩
 obtain rfl:=hc.uniq hd
 exact h q
set_option maxHeartbeats 4000000 in
theorem Zs (A R:List (List Ar)) (hA:Bv A=true) (hv:Bv R=true) (hn:A.length+R.length<=64) (ht:Bw A+Bw R<=1000) (hrA:∀ r∈A,r.length<=1000000) (hr:∀ r∈R,r.length<=1000000):FC Tryz.prog 16 [B7 A,B7 R] [] (fun r o=>o=[]/\r=.b (EqW A R)):=by
 refine A6 Tryz.func16 rfl (by rw [Tryz.ntmps16];simp) ?_
 rw [Tryz.ntmps16]
 simp only [Bf,B7]
 have hlA:BE A=true:=gEg (gE4 hA).1
 have hz:=YA hA hv (by omega) ht
 have hzn:(Eo A R).length<=64:=by rw [CF];exact hn
 have hzr:=Zm hrA hr
 have hA1:1<=A.length:=(gE4 hlA).1
 have hR1:1<=R.length:=(gE4 (gEg (gE4 hv).1:BE R=true)).1
 have hbL:L6 [A,R]=Eo A R:=by show Eo (Eo [] A) R=_;rw [Q4]
 (refine Wt ?_;(repeat clear hK K);repeat refine kq fun K hK=>?_)
 (refine Wy (CD A (by omega) (fun r h=>by have:=hrA r h;omega)) ?_;intro K1 hK1)
 rintro _ _ ⟨rfl,rfl⟩
 (refine Wz ?_;clear hK1 K1)
 rw [hA]
 (refine Wu @Bool.not_true ?_;(repeat clear hK K);repeat refine kq fun K hK=>?_)
 (refine BV rfl rfl (by simp only [go_sem] <;> rfl) ?_;intro K1 hK1;refine (Bb (ids:=[]) (CD R (by omega) (fun r h=>by have:=hr r h;omega)) rfl rfl (by simp only [go_sem]) (by kernel_rfl) (by (simp only [List.append_nil,go_sem]) <;> rfl) ?_).stp)
 rintro _ _ ⟨rfl,rfl⟩
 (refine Wz ?_;clear hK1 K1)
 rw [hv]
 (refine Wu @Bool.not_true ?_;(repeat clear hK K);repeat refine kq fun K hK=>?_)
 refine WC ?_
 (refine Wt ?_;(repeat clear hK K);repeat refine kq fun K hK=>?_)
 have hf:(if 2<=(Ya [A,R]).length then C.t 1 ((Ya [A,R]).take 2) else C.u)=C.t 1 (Ya [A,R]):=rfl
 (refine BS (Bg (r:=⟨25,1,true,[.t 1 (Ah A),.t 1 (Ah R)]⟩) 2 (Ya [A,R]) rfl ⟨.inl rfl,.inl rfl,trivial⟩ (show 0<(1:Nat) by omega)) ?_;simp only [ST.frz,A0.frz,AV.frz,C.frz,Nat.le_refl,List.set_cons_zero,List.set_cons_succ,go_sem,hf])
 have hns:=SI [A,R] (by simp) (by simp) (by simp [hA,hv]) (by simp only [List.mem_cons,List.not_mem_nil,or_false,forall_eq_or_imp,forall_eq];exact ⟨hrA,hr⟩) (by show A.length+(R.length+0)<=16384;omega) (by show Bw A+(Bw R+0)<=262144;omega)
 rw [hbL] at hns
 (refine Wy hns ?_;intro K1 hK1)
 rintro _ _ ⟨rfl,D,Q,B,_,hD,hB,hQ,rfl⟩
 simp only [Y9]
 (refine Wz ?_;clear hK1 K1)
 (refine Wt ?_;(repeat clear hK K);repeat refine kq fun K hK=>?_)
 (refine Ai rfl ?_;intro K1 hK1;refine AH (ids:=[]) [3] (T6 (Eo A R) D Q B hz hzn hzr hD hQ hB) rfl rfl (by simp only [go_sem]) (by first | assumption | kernel_rfl) rfl rfl (by (simp only [List.map_append,List.append_nil,go_sem]) <;> rfl) (by (simp only [VS,Y9,go_sem]) <;> rfl) ?_ ?_)
 ·rintro _ _ ⟨c,_,_,rfl,rfl⟩;rfl
 rintro _ _ ⟨c,hc,hN,rfl,rfl⟩
 have hcl:c.length=A.length+R.length:=by rw [hN.len,CF]
 simp only [Y9]
 (refine Wz ?_;clear hK1 K1)
 (refine Wt ?_;(repeat clear hK K);repeat refine kq fun K hK=>?_)
 (refine Ac 10 [(0,0),(1,0),(2,1),(3,0),(4,0),(5,1),(6,0),(7,0),(8,1),(9,0),(10,2)] (by kernel_rfl) (by kernel_rfl) (by intro c st h;simp [Ae,AF,VT] at h) ?_)
 (refine Wq (an @Int.toNat_zero (an @A3 (an @A4 (an (YG (c:=c) (i:=0) (by omega)) (YG (c:=c) (i:=A.length) (by omega)))))) ?_;repeat clear hK K)
 have he:(c.getD 0 0 == c.getD A.length 0)=EqW A R:=EqW.of hA hv hc
 simp only [he]
 exact Lq [] Tryz.results16
theorem YZ (S:List (List Ar)) (c:List Int):∀ k,Xl S (Xk S c) k=Xl S c (k+1)
 | 0=>rfl
 | k+1=>by rw [Xl,YZ S c k];rfl
theorem Zt (S:List (List Ar)):∀ (m:Nat) (c:List Int),Nrm S.length c->S.length<=F9 S.length c+m->∃ k,Xk S (Xl S c k)=Xl S c k:=by
 intro m
 induction m with
 | zero=>
  intro c hN hm
  refine ⟨0,?_⟩
  by_cases e:Xk S c=c
  ·exact e
  have h1:=U4 hN e
  have h2:=KK S.length (Xk S c)
  omega
 | succ m ih=>
  intro c hN hm
  by_cases e:Xk S c=c
  ·exact ⟨0,e⟩
  have h1:=U4 hN e
  obtain ⟨k,hk⟩:=ih (Xk S c) (NB S c) (by omega)
  rw [YZ] at hk
  exact ⟨k+1,hk⟩
theorem WkC.ex {R:List (List Ar)} (hv:Bv R=true) (hn:R.length<=100):∃ c,WkC R c:=by
 have hl:=(Ht hv hn).1
 have h1:1<=R.length:=(gE4 hv).1.1
 obtain ⟨B,hB⟩:∃ B,DvL R B:=by
  refine ⟨(List.range R.length).map fun s=>@decide (Dv R s) (Classical.propDecidable _),by simp,fun s hs=>?_⟩
  rw [gE2,List.getElem?_map,List.getElem?_range hs]
  exact @decide_eq_true_iff _ (Classical.propDecidable _)
 obtain ⟨k,hk⟩:=Zt (C9 R) R.length (Xv B R.length) (by rw [hl];exact NC _ h1) (by omega)
 exact ⟨_,B,hB,k,rfl,hk⟩
theorem EqW.yes {A R:List (List Ar)} (hA:Bv A=true) (hv:Bv R=true) (hn:A.length+R.length<=100) (ht:Bw A+Bw R<=1000) (h:∀ d,WkC (Eo A R) d->d.getD 0 0=d.getD A.length 0):EqW A R=true:=by
 obtain ⟨d,hd⟩:=WkC.ex (YA hA hv hn ht) (by rw [CF];exact hn)
 exact @decide_eq_true _ (Classical.propDecidable _) ⟨hA,hv,d,hd,h d hd⟩
def AnW {α:Type} (A:List (List Ar)) (kA:Nat->α) (B:List (List Ar)) (kB:Nat->α) (s t:Nat):Prop:=
 (Dv A s->Dv B t)/\∀ e u,WA A s e u->∃ v,WA B t e v/\kB v=kA u
section
variable {α : Type} {A B C : List (List Ar)} {kA kB kC : Nat -> α} {s t r : Nat}
theorem AnW.trans (h1 : AnW A kA B kB s t) (h2 : AnW B kB C kC t r) : AnW A kA C kC s r :=
 ⟨fun d => h2.1 (h1.1 d), fun e u w => by
  obtain ⟨v, w2, e2⟩ := h1.2 e u w
  obtain ⟨x, w3, e3⟩ := h2.2 e v w2
  exact ⟨x, w3, e3.trans e2⟩⟩
theorem MtW.of (hA:Bv A=true) (hB:Bv B=true) (h:∀ s t,s<A.length->t<B.length->kA s=kB t->AnW A kA B kB s t):MtW A kA B kB:=by
 intro s t hs ht e
 obtain ⟨h1,h2⟩:=h s t hs ht e
 refine ⟨h1,fun a ha=>?_⟩
 obtain ⟨u,hu,hw,e1⟩:=(EK hA hs).1 ha
 obtain ⟨v,hv,e2⟩:=h2 _ _ hw
 exact ⟨(a.1,(v:Int)),(EK hB ht).2 ⟨v,hv.lt hB ht,hv,rfl⟩,rfl,by rw [e1];simpa using e2⟩
theorem MtW.an (h:MtW A kA B kB) (hA:Bv A=true) (hB:Bv B=true) (hs:s<A.length) (ht:t<B.length) (e:kA s=kB t):AnW A kA B kB s t:=by
 obtain ⟨h1,h2⟩:=h s t hs ht e
 refine ⟨h1,fun x u hw=>?_⟩
 obtain ⟨b,hb,e1,e2⟩:=h2 (x,(u:Int)) ((EK hA hs).2 ⟨u,hw.lt hA hs,hw,rfl⟩)
 obtain ⟨v,_,hv,e3⟩:=(EK hB ht).1 hb
 simp only at e1 e2
 rw [e1] at hv
 exact ⟨v,hv,by rw [e3] at e2;simpa using e2⟩
end
/-! A canonical form. -/
structure CnX (Y X:List (List Ar)) (o:Nat->Nat):Prop where
 z:0<X.length
 o0:o 0=0
 bd:∀ j,j<X.length->o j<Y.length
 inj:∀ i j,i<X.length->j<X.length->o i=o j->i=j
 up:∀ j (a:Ar),j<X.length->a∈Y.getD (o j) []->∃ i:Nat,i<X.length/\(a.1,(i:Int))∈X.getD j []/\o i=a.2.toNat
 dn:∀ j (a:Ar),j<X.length->a∈X.getD j []->∃ i:Nat,i<X.length/\a.2=(i:Int)/\(a.1,(o i:Int))∈Y.getD (o j) []
theorem Zz {Y:List (List Ar)} (hY:BE Y=true):CnX Y (BT Y).1 (YO Y):=by
 obtain ⟨h1,_,_,h4⟩:=gE4 hY
 obtain ⟨c1,c2,c3,c4,c5,c6⟩:=Zl h1 fun r hr a ha=>by have:=h4 r hr a ha;exact ⟨this.2.2.1,this.2.2.2⟩
 exact ⟨c1,c2,c3,c4,c5,c6⟩
section
variable {X Y : List (List Ar)} {o : Nat -> Nat}
theorem CnX.rdn (h:CnX Y X o) (hX:Bv X=true) (hY:Bv Y=true) {j i:Nat} (hj:j<X.length) (hr:Rc (WP true X) j i):i<X.length/\Rc (WP true Y) (o j) (o i):=by
 induction hr with
 | refl=>exact ⟨hj,.refl _⟩
 | @tail v w _ hw ih=>
  obtain ⟨i1,i2⟩:=ih
  obtain ⟨i,q1,q2,q3⟩:=h.dn _ _ i1 ((Gs hX).1 hw)
  have:i=w:=by simp only at q2;exact (Int.ofNat.inj q2).symm
  subst this
  exact ⟨q1,i2.tail ((Gs hY).2 q3)⟩
theorem CnX.rup (h:CnX Y X o) (hX:Bv X=true) (hY:Bv Y=true) {j u:Nat} (hj:j<X.length) (hr:Rc (WP true Y) (o j) u):∃ i,i<X.length/\o i=u/\Rc (WP true X) j i:=by
 induction hr with
 | refl=>exact ⟨j,hj,rfl,.refl _⟩
 | tail _ hw ih=>
  obtain ⟨i,i1,i2,i3⟩:=ih
  subst i2
  obtain ⟨k,q1,q2,q3⟩:=h.up i _ i1 ((Gs hY).1 hw)
  exact ⟨k,q1,by simpa using q3,i3.tail ((Gs hX).2 q2)⟩
theorem CnX.andn {α:Type} (h:CnX Y X o) (hX:Bv X=true) (hY:Bv Y=true) (k:Nat->α) {j:Nat} (hj:j<X.length):AnW X (fun i=>k (o i)) Y k j (o j):=by
 refine ⟨fun ⟨g,hg,w,hw,hwg⟩=>?_,fun e u hw=>?_⟩
 ·obtain ⟨a1,a2⟩:=h.rdn hX hY hj hg
  obtain ⟨i,q1,q2,q3⟩:=h.dn _ _ a1 ((Gs hX).1 hw)
  have:i=w:=by simp only at q2;exact (Int.ofNat.inj q2).symm
  subst this
  exact ⟨_,a2,_,(Gs hY).2 q3,(h.rdn hX hY q1 hwg).2⟩
 rcases hw with ⟨h0,hr⟩ | ⟨h0,p,hp,a,ha,h1,h2⟩
 ·exact ⟨o u,.inl ⟨h0,(h.rdn hX hY hj hr).2⟩,rfl⟩
 obtain ⟨a1,a2⟩:=h.rdn hX hY hj hp
 obtain ⟨i,q1,q2,q3⟩:=h.dn _ _ a1 ha
 rw [q2] at h2
 simp only [Int.toNat_natCast] at h2
 exact ⟨o u,.inr ⟨h0,_,a2,_,q3,h1,by simpa using (h.rdn hX hY q1 h2).2⟩,rfl⟩
theorem CnX.anup {α:Type} (h:CnX Y X o) (hX:Bv X=true) (hY:Bv Y=true) (k:Nat->α) {j:Nat} (hj:j<X.length):AnW Y k X (fun i=>k (o i)) (o j) j:=by
 refine ⟨fun ⟨g,hg,w,hw,hwg⟩=>?_,fun e u hw=>?_⟩
 ·obtain ⟨i,a1,rfl,a3⟩:=h.rup hX hY hj hg
  obtain ⟨l,q1,q2,q3⟩:=h.up i _ a1 ((Gs hY).1 hw)
  simp only [Int.toNat_natCast] at q3
  subst q3
  obtain ⟨i2,b1,b2,b3⟩:=h.rup hX hY q1 hwg
  obtain rfl:=h.inj _ _ b1 a1 b2
  exact ⟨_,a3,_,(Gs hX).2 q2,b3⟩
 rcases hw with ⟨h0,hr⟩ | ⟨h0,p,hp,a,ha,h1,h2⟩
 ·obtain ⟨i,a1,rfl,a3⟩:=h.rup hX hY hj hr
  exact ⟨i,.inl ⟨h0,a3⟩,rfl⟩
 obtain ⟨i,a1,rfl,a3⟩:=h.rup hX hY hj hp
 obtain ⟨l,q1,q2,q3⟩:=h.up i _ a1 ha
 rw [<- q3] at h2
 obtain ⟨i2,b1,rfl,b3⟩:=h.rup hX hY q1 h2
 exact ⟨i2,.inr ⟨h0,_,a3,_,q2,h1,by simpa using b3⟩,rfl⟩
end
/-! What stands for all states that a canonical form keeps. -/
theorem Za {P:Int->Prop} {num old:List Int} {t:Int} (h:∀ s∈old,P s) (ht:P t):∀ s∈(AX num old t).2,P s:=by
 intro s hs
 unfold AX at hs
 split at hs
 rotate_left
 ·exact h s hs
 rcases List.mem_append.1 hs with q | q
 ·exact h s q
 rw [List.mem_singleton.1 q];exact ht
theorem Z0 {P:Int->Prop}:∀ (r:List Ar) (num old:List Int) (nx:List Ar),(∀ s∈old,P s)->(∀ a∈r,P a.2)->∀ s∈(Cr r num old nx).2.1,P s
 | [],_,_,_,h,_=>h
 | a :: r,num,old,nx,h,hr=>Z0 r _ _ _ (Za h (hr a List.mem_cons_self)) fun b hb=>hr b (gEf _ hb)
theorem Z1 {R:List (List Ar)} {P:Int->Prop} (hc:∀ s,P s->∀ a∈R.getD s.toNat [],P a.2):∀ (f i:Nat) (num old:List Int) (out:List (List Ar)),(∀ s∈old,P s)->∀ s∈(F2 R f i num old out).2,P s
 | 0,_,_,_,_,h=>h
 | f+1,i,num,old,out,h=>by
  unfold F2
  split
  ·exact h
  ·rename_i s e
   exact Z1 hc f _ _ _ _ (Z0 _ _ _ _ h fun a ha=>hc s (h s (gE9 e)) a ((C8 _ _).1 ha))
theorem Zu {R:List (List Ar)} {P:Nat->Prop} (h0:P 0) (hc:∀ s,P s->∀ a∈R.getD s [],P a.2.toNat) (j:Nat):P (YO R j):=by
 have h:=Z1 (R:=R) (P:=fun x=>P x.toNat) (fun s hs a ha=>hc _ hs a ha) R.length 0 ((List.replicate R.length (-1)).set 0 0) [0] [] (fun s hs=>by rw [List.mem_singleton.1 hs];exact h0)
 unfold YO
 rw [gE2]
 cases e:(BT R).2[j]? with
 | none=>exact h0
 | some x=>exact h x (gE9 e)
def MtS {α:Type} (A:List (List Ar)) (kA:Nat->α) (B:List (List Ar)) (kB:Nat->α):Prop:=
 ∀ s t,s<A.length->t<B.length->kA s=kB t->∀ a∈A.getD s [],∃ b∈B.getD t [],b.1=a.1/\kB b.2.toNat=kA a.2.toNat
section
variable {α : Type} {A B C : List (List Ar)} {kA kB kC : Nat -> α} {s t r : Nat}
theorem MtS.rc (h:MtS A kA B kB) (hA:Bv A=true) (hB:Bv B=true) (hs:s<A.length) (ht:t<B.length) (e:kA s=kB t) {u:Nat} (hr:Rc (WP true A) s u):u<A.length/\∃ v,v<B.length/\kA u=kB v/\Rc (WP true B) t v:=by
 induction hr with
 | refl=>exact ⟨hs,t,ht,e,.refl _⟩
 | tail _ hw ih=>
  obtain ⟨i1,v,i2,i3,i4⟩:=ih
  have ha:=(Gs hA).1 hw
  obtain ⟨b,hb,e1,e2⟩:=h _ _ i1 i2 i3 _ ha
  have hbl:=EJ hB i2 hb
  have hal:=EJ hA i1 ha
  simp only [Int.toNat_natCast] at e1 e2 hal
  refine ⟨hal.2.2.2,b.2.toNat,hbl.2.2.2,e2.symm,i4.tail ((Gs hB).2 ?_)⟩
  obtain ⟨x,y⟩:=b
  simp only at e1 hbl ⊢
  subst e1
  rw [Int.toNat_of_nonneg hbl.2.2.1]
  exact hb
end
theorem Zv {α:Type} {A R:List (List Ar)} {kA kR:Nat->α} (hA:Bv A=true) (hR:Bv R=true) (hn:A.length+R.length<=100) (ht:Bw A+Bw R<=1000) (h1:MtW A kA A kA) (h2:MtW A kA R kR) (h3:MtW R kR A kA) (h4:MtW R kR R kR) (h0:kA 0=kR 0):EqW A R=true:=by
 have hA1:1<=A.length:=(gE4 hA).1.1
 have hR1:1<=R.length:=(gE4 hR).1.1
 refine EqW.yes hA hR hn ht fun d hd=>?_
 have hz:=YA hA hR hn ht
 have hb:=MtW.both hA hR hn hz h1 h2 h3 h4
 refine hb.le hz (by rw [CF];exact hn) hd (by rw [CF];omega) (by rw [CF];omega) ?_
 unfold ZF
 rw [if_pos (show 0<A.length by omega),if_neg (by omega),Nat.sub_self,h0]
structure Cstep where
 k:Int
 s:List Int
 m:List Ar
 o:List Ar
 R:List (List Ar)
def Cstep.cells (x:Cstep):List C:=[.v (.int .i64 x.k),.t 1 (Ab x.s),.t 2 (Ao x.m),.t 2 (Ao x.o),.t 1 (Ah x.R)]
def E2 (x:Int):Bool:=decide (x>=2) && decide (x<=1025)
attribute [local go_sem] List.set_cons_zero List.set_cons_succ List.map_cons List.map_nil List.take_succ_cons List.take_zero List.drop_zero List.drop_succ_cons C.pl C.one List.all_cons List.all_nil Bool.and_true
theorem DI {x:Int}:E2 x=true↔DY x:=by simp [E2,DY]
theorem L8 {x:Int}:E2 x=false↔¬ DY x:=by rw [<- DI];simp
theorem QK {P:Program} {o:Oper} {st:ST} {K:ST->Prop} {t:TypeId} {x l u:Operand} {k i j:Nat} {cs:List Tr} {kk kk':IntKind} (hd:VJ o st.n=true) (ho:o.op=.slice t x (some l) (some u) none) (hz:Er P t=some k) (hx:st.ev x=.a (.c (.t k cs))) (hl:st.ev l=.a (.c (.v (.int kk (i:Int))))) (hu:st.ev u=.a (.c (.v (.int kk' (j:Int)))))
  (hk:0<k) (hij:i<=j) (hj:j*k<=cs.length) (h:K (st.put o.dst (.a (.c (.t k ((cs.drop (i*k)).take ((j - i)*k))))))):Stp P o st K:=by
 intro M0 w0 a w N Q hR hN
 obtain ⟨g,⟨hp1,hp2⟩,hR⟩:=hR
 have e1:=hR.ev x
 have e2:=hR.ev l
 have e3:=hR.ev u
 rw [hx] at e1
 rw [hl] at e2
 rw [hu] at e3
 have e2:a.eval l=.int kk (i:Int):=e2
 have e3:a.eval u=.int kk' (j:Int):=e3
 obtain ⟨A,n,cp,f1,f2,f3⟩:=Rd.form (show Rd _ _ _ _ from e1)
 have hjn:j<=n:=Nat.le_of_mul_le_mul_right (by rw [<- f2];exact hj) hk
 rw [f1] at e1
 have hcut:=Rd.cut (show Rd _ _ _ _ from e1) hk hij hj
 obtain ⟨e,h2,h4,h3⟩:=D3 hz
 have hrun:(execOp a.eval o).run P w=.ok (.value (.slice (Ma A cp i k) (j - i) (cp - i))) w:=by
  simp only [execOp,ho,Option.map_some,Option.map_none,f1,e2,e3,Sem.run_bind,D4 h2]
  rw [run_slice_lh w t _ _ _ (by rw [h4];exact h2) _ _ (i:Int) (j:Int) (by omega) (by omega) (by omega),h4,h3]
  simp [sliced,Result.andThen,Ma]
 unfold Oper.wp
 rw [hrun]
 exact hN _ _ _ h ⟨g,⟨by cases o.dst <;> exact hp1,by cases o.dst <;> exact hp2⟩,hR.put (B3 hd) hcut⟩
theorem Yz (x:Int):E2 x=(decide (x>=2) && decide (x<=1025)):=rfl
theorem HJ (x:Int):FC Tryz.prog 92 [.i x] [] (fun r o=>o=[]/\r=.b (E2 x)):=by
 refine A6 Tryz.func92 rfl (by rw [Tryz.ntmps92];simp) ?_
 rw [Tryz.ntmps92]
 simp only [Bf]
 by_cases h1:x>=2
 ·have e1:decide (x>=2)=true:=by simpa using h1
  (refine Wu @e1 ?_;(repeat clear hK K);repeat refine kq fun K hK=>?_)
  exact RG [] Tryz.results92 (an @Yz (an @e1 @Bool.true_and))
 have e1:decide (x>=2)=false:=by simpa using h1
 (refine Wu @e1 ?_;(repeat clear hK K);repeat refine kq fun K hK=>?_)
 exact RG [] Tryz.results92 (an @Yz (an @e1 @Bool.false_and))
def FstP (o:List Ar) (x:Ar) (n:Nat):Prop:=n<=o.length/\(∀ i a,i<n->o[i]?=some a->WK a x=true)/\∀ i a,n<=i->o[i]?=some a->WK a x=false
theorem FstP.mem {o:List Ar} {x:Ar} {n:Nat} (h:FstP o x n) (hs:SortA o):x∈o↔o[n]?=some x:=by
 constructor
 rotate_left
 ·exact fun hm=>gE9 hm
 intro hm
 obtain ⟨i,hi⟩:=List.mem_iff_getElem?.1 hm
 rcases Nat.lt_trichotomy i n with h1 | h1 | h1
 ·have:=h.2.1 i x h1 hi
  rw [Ef] at this;cases this
 ·rw [<- h1];exact hi
 have hl:=(List.getElem?_eq_some_iff.1 hi).1
 have hg:=gE1 (show n<o.length by omega)
 have h2:=hs.at h1 hg hi
 have h3:=h.2.2 n _ (Nat.le_refl _) hg
 rw [h2] at h3;cases h3
theorem HK (o:List Ar) (x:Ar) (hn:o.length<=100000000) (hs:SortA o):FC Tryz.prog 120 [BK o,.a (.g [.v (.int .i64 x.1),.v (.int .i64 x.2)])] [] (fun r q=>q=[]/\∃ n:Nat,r=.i n/\FstP o x n):=by
 refine A6 Tryz.func120 rfl (by rw [Tryz.ntmps120];simp) ?_
 rw [Tryz.ntmps120]
 simp only [Bf,BK]
 (refine Wu (an @A2 @Ak) ?_;(repeat clear hK K);repeat refine kq fun K hK=>?_)
 refine A8 (fun p:Nat × Nat=>{ tm:=[(0,.a (.c (.t 2 (Ao o)))),(3,.a (.c (.p 0 0))),(5,.i p.1),(6,.i p.2)],hp:=[.r ⟨49,2,false,[.v (.int .i64 x.1),.v (.int .i64 x.2)]⟩],n:=30,pin:=0 })
  (fun p=>p.1<=p.2/\p.2<=o.length/\(∀ i a,i<p.1->o[i]?=some a->WK a x=true)/\∀ i a,p.2<=i->o[i]?=some a->WK a x=false) (fun p=>p.2 - p.1) (0,o.length) ?_ ?_ ?_
 ·exact ⟨by simp,Nat.le_refl _,fun i _ hi=>by simp at hi,fun i a hi ha=>by have:=(List.getElem?_eq_some_iff.1 ha).1;simp only at hi;omega⟩
 ·(refine BG ?_;simp only [Dg,go_sem,Int.natCast_zero];try simp)
 rintro ⟨lo,hi⟩ ⟨h1,h2,h3,h4⟩ K hK
 simp only at h1 h2 h3 h4 ⊢
 by_cases hlt:lo<hi
 rotate_left
 ·have hl1:decide ((lo:Int)<(hi:Int))=false:=by simpa using hlt
  have e:lo=hi:=by omega
  subst e
  (refine Wu @hl1 ?_;(repeat clear hK K);repeat refine kq fun K hK=>?_)
  refine WC ?_
  (refine Wx ?_;repeat clear hK K)
  (refine Wt ?_;(repeat clear hK K);repeat refine kq fun K hK=>?_)
  refine WF [] Tryz.results120 ?_
  exact ⟨lo,rfl,h2,h3,h4⟩
 have hl1:decide ((lo:Int)<(hi:Int))=true:=by simpa using hlt
 have em:((lo:Int)+((hi:Int) - (lo:Int)) / 2)=((lo+(hi - lo) / 2:Nat):Int):=by omega
 have hm1:lo<=lo+(hi - lo) / 2:=by omega
 have hm2:lo+(hi - lo) / 2<hi:=by omega
 generalize lo+(hi - lo) / 2=m at em hm1 hm2
 have hml:m<o.length:=by omega
 have hg:=gE1 hml
 have hk2:=AL hml
 (refine Wu (an @hl1 @em) ?_;(repeat clear hK K);repeat refine kq fun K hK=>?_)
 refine WB ?_
 (refine Wu @em ?_;(repeat clear hK K);repeat refine kq fun K hK=>?_)
 (refine Ac 5 [(0,0),(1,0),(2,0),(3,1),(4,1),(5,2),(6,0)] (by kernel_rfl) (by kernel_rfl) (by intro c st h;simp [Ae,AF,VT] at h) ?_)
 (refine Wq (an @A2 (an @Ak @hk2)) ?_;repeat clear hK K)
 (refine MF (MR o[m] x) ?_;intro K1 hK1)
 rintro _ _ ⟨rfl,rfl⟩
 (refine Wz ?_;clear hK1 K1)
 cases hl:WK o[m] x with
 | true=>
  (refine Wq (an @Ce @hl) ?_;repeat clear hK K)
  refine WB ?_
  (refine Wt ?_;(repeat clear hK K);repeat refine kq fun K hK=>?_)
  refine WD ?_
  refine hK _ (m+1,hi) ⟨by simp only;omega,h2,fun i a hi' ha=>?_,h4⟩ (by simp only;omega) ?_
  rotate_left
  ·exact WE
  rcases Nat.lt_or_ge i m with h5 | h5
  ·exact D7 (hs.at h5 ha hg) hl
  have e:i=m:=by simp only at hi';omega
  subst e;rw [hg] at ha;cases ha;exact hl
 | false=>
  (refine Wq (an @Ce @hl) ?_;repeat clear hK K)
  refine WC ?_
  (refine Wt ?_;(repeat clear hK K);repeat refine kq fun K hK=>?_)
  refine WD ?_
  refine hK _ (lo,m) ⟨by simp only;omega,by simp only;omega,h3,fun i a hi' ha=>?_⟩ (by simp only;omega) ?_
  rotate_left
  ·exact WE
  rcases Nat.lt_or_ge m i with h5 | h5
  rotate_left
  ·have e:i=m:=by simp only at hi';omega
   subst e;rw [hg] at ha;cases ha;exact hl
  cases h6:WK a x with
  | false=>rfl
  | true=>rw [D7 (hs.at h5 hg ha) h6] at hl;cases hl

theorem Ta:UM Tryz.prog 49 2:=TS Tryz.underlying49 (by kernel_rfl) (by kernel_rfl) (by decide) (by decide) rfl rfl (by kernel_rfl) (by kernel_rfl)
theorem OJ (x y:Operand) (a b:Ar):FR Tryz.prog .eql 49 x y [.int .i64 a.1,.int .i64 a.2] [.int .i64 b.1,.int .i64 b.2] (decide (a=b))=True:=by
 rw [<- Dm]
 refine eq_true ?_
 have:=(Ta x y [.v (.int .i64 a.1),.v (.int .i64 a.2)] [.v (.int .i64 b.1),.v (.int .i64 b.2)] _ _ rfl rfl rfl rfl).1
 simpa [VD] using this
theorem Fo (o:List Ar) (x:Ar) (hn:o.length<=100000000) (hs:SortA o):FC Tryz.prog 95 [BK o,.a (.g [.v (.int .i64 x.1),.v (.int .i64 x.2)])] [] (fun r q=>q=[]/\r=.b (decide (x∈o))):=by
 refine A6 Tryz.func95 rfl (by rw [Tryz.ntmps95];simp) ?_
 rw [Tryz.ntmps95]
 simp only [Bf,BK]
 (refine Wt ?_;(repeat clear hK K);repeat refine kq fun K hK=>?_)
 (refine Wy (HK o x hn hs) ?_;intro K1 hK1)
 rintro _ _ ⟨rfl,n,rfl,hf⟩
 (refine Wz ?_;clear hK1 K1)
 (refine Wt ?_;(repeat clear hK K);repeat refine kq fun K hK=>?_)
 (refine Ac 12 [(0,0),(1,0),(2,0),(3,0),(4,0),(5,0),(6,0),(7,0),(8,1),(9,1),(10,0),(11,0),(12,2)] (by kernel_rfl) (by kernel_rfl) (by intro c st h;simp [Ae,AF,VT] at h) ?_)
 by_cases hlt:n<o.length
 rotate_left
 ·have hl1:decide ((n:Int)<(o.length:Int))=false:=by simpa using hlt
  (refine Wo (an @hl1 (an @A2 @Ak)) ?_;repeat clear hK K)
  (refine Wt ?_;(repeat clear hK K);repeat refine kq fun K hK=>?_)
  refine WF [] Tryz.results95 ?_
  have:=hf.mem hs
  rw [List.getElem?_eq_none (by omega)] at this
  simp at this
  simp [this]
 have hl1:decide ((n:Int)<(o.length:Int))=true:=by simpa using hlt
 have hg:=gE1 hlt
 have hk2:=AL hlt
 (refine Wo (an @hl1 (an @hk2 (an @OJ (an @Dm (an @true_and (an @A2 @Ak)))))) ?_;repeat clear hK K)
 (refine Wt ?_;(repeat clear hK K);repeat refine kq fun K hK=>?_)
 refine WF [] Tryz.results95 ?_
 have:=hf.mem hs
 rw [hg] at this
 simp only [Option.some.injEq] at this
 simp [this]

theorem FstP.le {o:List Ar} {x y:Ar} {n m:Nat} (h1:FstP o x n) (h2:FstP o y m) (h:∀ a,WK a x=true->WK a y=true):n<=m:=by
 rcases Nat.lt_or_ge m n with h3 | h3
 rotate_left
 ·exact h3
 have hl:=h1.1
 have hg:=gE1 (show m<o.length by omega)
 have h4:=h _ (h1.2.1 m _ h3 hg)
 rw [h2.2.2 m _ (Nat.le_refl _) hg] at h4
 cases h4
theorem II (o:List Ar) (e:Int) (hn:o.length<=100000000) (hs:SortA o) (hv:E2 e=true) (hh:∀ a∈o,0<=a.2):FC Tryz.prog 94 [BK o,.i e] [] (fun r q=>q=[]/\∃ W,r=BK W/\W.length<=o.length/\∀ a,a∈W↔a∈o/\a.1=e):=by
 refine A6 Tryz.func94 rfl (by rw [Tryz.ntmps94];simp) ?_
 rw [Tryz.ntmps94]
 simp only [Bf,BK]
 obtain ⟨he1,he2⟩:=DI.1 hv
 (refine Wt ?_;(repeat clear hK K);repeat refine kq fun K hK=>?_)
 (refine Wy (HJ e) ?_;intro K1 hK1)
 rintro _ _ ⟨rfl,rfl⟩
 (refine Wz ?_;clear hK1 K1)
 (refine Wu (an @hv @Bool.not_true) ?_;(repeat clear hK K);repeat refine kq fun K hK=>?_)
 refine WC ?_
 (refine Wt ?_;(repeat clear hK K);repeat refine kq fun K hK=>?_)
 (refine Wy (HK o (e,0) hn hs) ?_;intro K1 hK1)
 rintro _ _ ⟨rfl,i,rfl,hf⟩
 (refine Wz ?_;clear hK1 K1)
 (refine Wt ?_;(repeat clear hK K);repeat refine kq fun K hK=>?_)
 (refine Wy (HK o (e+1,0) hn hs) ?_;intro K1 hK1)
 rintro _ _ ⟨rfl,j,rfl,hf2⟩
 (refine Wz ?_;clear hK1 K1)
 have hij:i<=j:=hf.le hf2 fun a ha=>by rw [C0] at ha ⊢;simp only at ha ⊢;omega
 have hjl:=hf2.1
 refine Ai rfl ?_;intro K1 hK1
 refine QK (k:=2) (cs:=Ao o) (i:=i) (j:=j) (kk:=.i64) (kk':=.i64) rfl rfl (by simp only [go_sem]) (by simp only [go_sem]) (by simp only [go_sem]) (by simp only [go_sem]) (by omega) hij (by rw [A2];omega) ?_
 simp only [go_sem]
 refine hK1 _ ?_;clear hK1 K1
 (refine Wt ?_;(repeat clear hK K);repeat refine kq fun K hK=>?_)
 refine WF [] Tryz.results94 ?_
 refine ⟨(o.drop i).take (j - i),?_,?_,fun a=>?_⟩
 ·rw [DP,BA]
 ·simp;omega
 constructor
 ·intro ha
  obtain ⟨q,hq⟩:=List.mem_iff_getElem?.1 ha
  rw [List.getElem?_take] at hq
  split at hq
  rotate_left
  ·cases hq
  rw [List.getElem?_drop] at hq
  have hm:=gE9 hq
  have h1:=hf.2.2 (i+q) a (by omega) hq
  have h2:=hf2.2.1 (i+q) a (by omega) hq
  rw [C0] at h2
  have h1:¬ (a.1<e\/(a.1=e/\a.2<0)):=by rw [<- C0 (a:=a) (b:=(e,0)),h1];simp
  have h3:=hh a hm
  simp only at h2
  exact ⟨hm,by omega⟩
 rintro ⟨hm,ha⟩
 obtain ⟨q,hq⟩:=List.mem_iff_getElem?.1 hm
 have hqi:i<=q:=by
  rcases Nat.lt_or_ge q i with h1 | h1
  rotate_left
  ·exact h1
  have h2:=hf.2.1 q a h1 hq
  rw [C0] at h2
  have:=hh a hm
  simp only at h2
  omega
 have hqj:q<j:=by
  rcases Nat.lt_or_ge q j with h1 | h1
  ·exact h1
  have h2:=hf2.2.2 q a h1 hq
  have h3:WK a (e+1,0)=true:=by rw [C0];simp only;omega
  rw [h2] at h3;cases h3
 refine List.mem_iff_getElem?.2 ⟨q - i,?_⟩
 rw [List.getElem?_take,if_pos (by omega),List.getElem?_drop,show i+(q - i)=q by omega]
 exact hq
set_option maxHeartbeats 2000000 in
theorem Tc (o:List Ar) (hn:o.length<=100000000):FC Tryz.prog 58 [BK o] [] (fun r q=>q=[]/\r=.b (M8 o)):=by
 refine A6 Tryz.func58 rfl (by rw [Tryz.ntmps58];simp) ?_
 rw [Tryz.ntmps58]
 simp only [Bf,BK]
 (refine Wu (an @A2 @Ak) ?_;(repeat clear hK K);repeat refine kq fun K hK=>?_)
 refine A8 (fun k:Nat=>{ tm:=[(0,.a (.c (.t 2 (Ao o)))),(9,.a (.c (.t 2 (Ao o)))),(10,.i o.length),(11,.i k)],hp:=[],n:=73,pin:=0 }) (fun k=>k<=o.length/\(∀ i a,i<k->o[i]?=some a->DY a.1/\DY a.2/\a.1 ≠ a.2)/\∀ i a b,i+1<k->o[i]?=some a->o[i+1]?=some b->WK a b=true) (fun k=>o.length - k) 0 ?_ ?_ ?_
 ·exact ⟨by omega,fun i _ hi=>by omega,fun i _ _ hi=>by omega⟩
 ·exact WE
 rintro k ⟨hk,hc,hs⟩ K hK
 by_cases hlt:k<o.length
 rotate_left
 ·have hl1:decide ((k:Int)<(o.length:Int))=false:=by simpa using hlt
  (refine Wu @hl1 ?_;(repeat clear hK K);repeat refine kq fun K hK=>?_)
  refine WC ?_
  have lt:∀ {i:Nat} {a:Ar},o[i]?=some a->i<k:=fun h=>by have:=(List.getElem?_eq_some_iff.1 h).1;omega
  have hS:SortA o:=Gd fun i a b h1 h2=>hs i a b (lt h2) h1 h2
  have hC:∀ a∈o,DY a.1/\DY a.2/\a.1 ≠ a.2:=fun a ha=>by obtain ⟨i,hi⟩:=List.mem_iff_getElem?.1 ha;exact hc i a (lt hi) hi
  have hH:∀ a∈o,0<=a.2:=fun a ha=>by obtain ⟨_,⟨h1,h2⟩,_⟩:=hC a ha;omega
  clear hs hc lt
  (refine Wx ?_;repeat clear hK K)
  (refine Wu (an @A2 @Ak) ?_;(repeat clear hK K);repeat refine kq fun K hK=>?_)
  refine A8 (fun k:Nat=>{ tm:=[(0,.a (.c (.t 2 (Ao o)))),(48,.a (.c (.t 2 (Ao o)))),(49,.i o.length),(50,.i k)],hp:=[],n:=73,pin:=0 }) (fun k=>k<=o.length/\∀ i x,i<k->o[i]?=some x->∀ y∈o,y.1=x.2->(x.1,y.2)∈o) (fun k=>o.length - k) 0 ?_ ?_ ?_
  ·exact ⟨by omega,fun i _ hi=>by omega⟩
  ·exact WE
  rintro k ⟨hk,ht⟩ K hK
  by_cases hlt:k<o.length
  rotate_left
  ·have hl1:decide ((k:Int)<(o.length:Int))=false:=by simpa using hlt
   (refine Wu @hl1 ?_;(repeat clear hK K);repeat refine kq fun K hK=>?_)
   refine WC ?_
   (refine Wx ?_;repeat clear hK K)
   (refine Wt ?_;(repeat clear hK K);repeat refine kq fun K hK=>?_)
   refine WF [] Tryz.results58 ?_
   have:M8 o=true:=by
    rw [M8,decide_eq_true_iff]
    refine ⟨hS,hC,fun x hx=>?_⟩
    obtain ⟨i,hi⟩:=List.mem_iff_getElem?.1 hx
    exact ht i x (by have:=(List.getElem?_eq_some_iff.1 hi).1;omega) hi
   rw [this]
  have hl1:decide ((k:Int)<(o.length:Int))=true:=by simpa using hlt
  have hg:=gE1 hlt
  have hk2:=AL hlt
  have mk:=gE6 hlt
  have hv:=DI.2 (hC _ mk).2.1
  (refine Wu @hl1 ?_;(repeat clear hK K);repeat refine kq fun K hK=>?_)
  refine WB ?_
  (refine Wu (an @A2 (an @Ak @hk2)) ?_;(repeat clear hK K);repeat refine kq fun K hK=>?_)
  (refine Wy (II o o[k].2 hn hS hv hH) ?_;intro K1 hK1)
  rintro _ _ ⟨rfl,W,rfl,hWl,hW⟩
  (simp only [As,Bl,BK,List.append_nil,List.nil_append,List.length_map,go_sem];refine hK1 _ ?_;clear hK1 K1)
  (refine Wu (an @A2 @Ak) ?_;(repeat clear hK K);repeat refine kq fun K hK=>?_)
  refine A8 (fun j:Nat=>{ tm:=[(0,.a (.c (.t 2 (Ao o)))),(6,.a (.c (.p 0 0))),(48,.a (.c (.t 2 (Ao o)))),(49,.i o.length),(50,.i k),(57,.a (.c (.t 2 (Ao W)))),(58,.i W.length),(59,.i j)],hp:=[.r ⟨49,2,false,[.v (.int .i64 o[k].1),.v (.int .i64 o[k].2)]⟩],n:=73,pin:=0 }) (fun j=>j<=W.length/\∀ i y,i<j->W[i]?=some y->(o[k].1,y.2)∈o) (fun j=>W.length - j) 0 ?_ ?_ ?_
  ·exact ⟨by omega,fun i _ hi=>by omega⟩
  ·exact WE
  rintro j ⟨hj,hj2⟩ K hK
  by_cases hltj:j<W.length
  rotate_left
  ·have hl2:decide ((j:Int)<(W.length:Int))=false:=by simpa using hltj
   (refine Wu @hl2 ?_;(repeat clear hK K);repeat refine kq fun K hK=>?_)
   refine WC ?_
   (refine Wx ?_;repeat clear hK K)
   (refine Wt ?_;(repeat clear hK K);repeat refine kq fun K hK=>?_)
   refine WD ?_
   refine hK _ (k+1) ⟨by omega,fun i x hi hx y hy he=>?_⟩ (by omega) ?_
   rotate_left
   ·refine Le.trans (A9 [] rfl rfl) ?_
    (try simp only [List.set_nil,List.take_nil,List.take_zero,List.map_append,go_sem])
    exact WE
   by_cases e:i=k
   rotate_left
   ·exact ht i x (by omega) hx y hy he
   subst e;rw [hg] at hx;cases hx
   obtain ⟨q,hq⟩:=List.mem_iff_getElem?.1 ((hW y).2 ⟨hy,he⟩)
   exact hj2 q y (by have:=(List.getElem?_eq_some_iff.1 hq).1;omega) hq
  have hl2:decide ((j:Int)<(W.length:Int))=true:=by simpa using hltj
  have hgj:=gE1 hltj
  have hj3:=AL hltj
  have mj:=(hW _).1 (gE6 hltj)
  (refine Wu @hl2 ?_;(repeat clear hK K);repeat refine kq fun K hK=>?_)
  refine WB ?_
  (refine Wu (an @A2 (an @Ak @hj3)) ?_;(repeat clear hK K);repeat refine kq fun K hK=>?_)
  (refine Wy (Fo o (o[k].1,W[j].2) hn hS) ?_;intro K1 hK1)
  rintro _ _ ⟨rfl,rfl⟩
  (refine Wz ?_;clear hK1 K1)
  by_cases q3:(o[k].1,W[j].2)∈o
  rotate_left
  ·have q4:decide ((o[k].1,W[j].2)∈o)=false:=by simpa using q3
   (refine Wu (an @q4 @Bool.not_false) ?_;(repeat clear hK K);repeat refine kq fun K hK=>?_)
   refine WB ?_
   (refine Wt ?_;(repeat clear hK K);repeat refine kq fun K hK=>?_)
   refine WF [] Tryz.results58 ?_
   rw [RL mk mj.1 mj.2 q3]
  have q4:decide ((o[k].1,W[j].2)∈o)=true:=by simpa using q3
  (refine Wu (an @q4 @Bool.not_true) ?_;(repeat clear hK K);repeat refine kq fun K hK=>?_)
  refine WC ?_
  (refine Wt ?_;(repeat clear hK K);repeat refine kq fun K hK=>?_)
  refine WD ?_
  refine hK _ (j+1) ⟨by omega,fun i y hi hy=>?_⟩ (by omega) ?_
  ·by_cases e:i=j
   ·subst e;rw [hgj] at hy;cases hy;exact q3
   exact hj2 i y (by omega) hy
  refine Le.trans (A9 [0] rfl rfl) ?_
  (try simp only [List.set_nil,List.take_nil,List.take_zero,List.map_append,go_sem])
  exact WE
 have hl1:decide ((k:Int)<(o.length:Int))=true:=by simpa using hlt
 have hg:=gE1 hlt
 have hk2:=AL hlt
 have bad:¬ (DY o[k].1/\DY o[k].2/\o[k].1 ≠ o[k].2)->M8 o=false:=fun h=>Pu hg h
 (refine Wu @hl1 ?_;(repeat clear hK K);repeat refine kq fun K hK=>?_)
 refine WB ?_
 (refine Wu (an @A2 (an @Ak @hk2)) ?_;(repeat clear hK K);repeat refine kq fun K hK=>?_)
 (refine Bz [] [(0,0,0),(1,1,2),(2,2,0),(3,0,0),(4,0,0),(5,0,0),(6,1,7),(7,2,0),(8,0,0),(9,0,0),(10,0,0),(11,0,0),(13,0,0),(12,1,27),(14,1,27),(15,0,0),(16,0,0),(17,0,0),(18,0,0),(19,0,0),(20,0,0),(21,0,0),(22,0,0),(23,0,0),(24,0,0),(25,1,27),(26,1,27),(27,2,0),(28,0,0),(29,0,0),(30,2,0)] (by kernel_rfl) (by kernel_rfl) (by intro c st h;simp [Ae,AF,VT] at h) ?_)
 (refine Wr ?_;repeat clear hK K)
 (refine Wf rfl rfl ?_;intro K1 hK1;refine AZ ?_;refine xv [] (HJ o[k].1) ?_ ?_)
 ·rintro _ _ ⟨rfl,rfl⟩ i o hi hl;simp at hl
 rintro _ _ ⟨rfl,rfl⟩
 (refine Wz ?_;clear hK1 K1)
 by_cases c1:E2 o[k].1=true
 rotate_left
 ·have c1':E2 o[k].1=false:=by simpa using c1
  (refine Ws (an @c1' (an @Bool.not_true @Bool.not_false)) ?_;repeat clear hK K)
  (refine Wg rfl rfl rfl ?_;intro K1 hK1;refine AP rfl ?_;simp only [go_sem];(first | refine hK1 _ ?_ | refine AD (hK1 _ ?_));clear hK1 K1)
  (refine Wr ?_;repeat clear hK K)
  (refine Wt ?_;(repeat clear hK K);repeat refine kq fun K hK=>?_)
  refine WB ?_
  (refine Wt ?_;(repeat clear hK K);repeat refine kq fun K hK=>?_)
  refine WF [] Tryz.results58 ?_
  rw [bad (fun h=>L8.1 c1' h.1)]
 (refine Ws (an @c1 @Bool.not_true) ?_;repeat clear hK K)
 (refine MD rfl rfl rfl (by simp only [go_sem] <;> rfl) ?_;intro K1 hK1;refine AZ ?_;refine xv [] (HJ o[k].2) ?_ ?_)
 ·rintro _ _ ⟨rfl,rfl⟩ i o hi hl;simp at hl
 rintro _ _ ⟨rfl,rfl⟩
 (refine Wz ?_;clear hK1 K1)
 by_cases c2:E2 o[k].2=true
 rotate_left
 ·have c2':E2 o[k].2=false:=by simpa using c2
  (refine Ws (an @c1 (an @c2' (an @Bool.not_true @Bool.not_false))) ?_;repeat clear hK K)
  (refine Wg rfl rfl rfl ?_;intro K1 hK1;refine AP rfl ?_;simp only [go_sem];(first | refine hK1 _ ?_ | refine AD (hK1 _ ?_));clear hK1 K1)
  (refine Wr ?_;repeat clear hK K)
  (refine Wt ?_;(repeat clear hK K);repeat refine kq fun K hK=>?_)
  refine WB ?_
  (refine Wt ?_;(repeat clear hK K);repeat refine kq fun K hK=>?_)
  refine WF [] Tryz.results58 ?_
  rw [bad (fun h=>L8.1 c2' h.2.1)]
 by_cases c5:o[k].1=o[k].2
 ·have d5:(o[k].1 == o[k].2)=true:=by simpa using c5
  (refine Ws (an @c1 (an @c2 (an @d5 @Bool.not_true))) ?_;repeat clear hK K)
  (refine Wg rfl rfl rfl ?_;intro K1 hK1;refine AP rfl ?_;simp only [go_sem];(first | refine hK1 _ ?_ | refine AD (hK1 _ ?_));clear hK1 K1)
  (refine Wr ?_;repeat clear hK K)
  (refine Wt ?_;(repeat clear hK K);repeat refine kq fun K hK=>?_)
  refine WB ?_
  (refine Wt ?_;(repeat clear hK K);repeat refine kq fun K hK=>?_)
  refine WF [] Tryz.results58 ?_
  rw [bad (fun h=>h.2.2 c5)]
 have d5:(o[k].1 == o[k].2)=false:=by simpa using c5
 have hck:DY o[k].1/\DY o[k].2/\o[k].1 ≠ o[k].2:=⟨DI.1 c1,DI.1 c2,c5⟩
 by_cases h0:k=0
 ·have e0:decide ((k:Int) > 0)=false:=by simp;omega
  (refine Ws (an @c1 (an @c2 (an @d5 (an @e0 @Bool.not_true)))) ?_;repeat clear hK K)
  (refine Wg rfl rfl rfl ?_;intro K1 hK1;refine AP rfl ?_;simp only [go_sem,c1,c2,e0,Bool.not_true];(first | refine hK1 _ ?_ | refine AD (hK1 _ ?_));clear hK1 K1)
  (refine Wr ?_;repeat clear hK K)
  (refine Wt ?_;(repeat clear hK K);repeat refine kq fun K hK=>?_)
  refine WC ?_
  (refine Wt ?_;(repeat clear hK K);repeat refine kq fun K hK=>?_)
  refine WD ?_
  refine hK _ (k+1) ⟨by omega,fun i a hi ha=>?_,fun i x y hi=>by omega⟩ (by omega) ?_
  ·have e2:i=k:=by omega
   subst e2;rw [hg] at ha;cases ha;exact hck
  refine Le.trans (A9 [] rfl rfl) ?_
  (try simp only [List.set_nil,List.take_nil,List.take_zero,List.map_append,go_sem])
  exact WE
 have e0:decide ((k:Int) > 0)=true:=by simp;omega
 have e3:((k:Int) - 1)=((k - 1:Nat):Int):=by omega
 have hlt1:k - 1<o.length:=by omega
 have hg1:=gE1 hlt1
 have hk3:=AL hlt1
 (refine Ws (an @c1 (an @c2 (an @d5 (an @e0 (an @e3 (an @Bool.not_true (an @A2 (an @Ak @hk3)))))))) ?_;repeat clear hK K)
 (refine MD rfl rfl rfl (by simp only [go_sem] <;> rfl) ?_;intro K1 hK1;refine AZ ?_;refine xv [] (MR o[k - 1] o[k]) ?_ ?_)
 ·rintro _ _ ⟨rfl,rfl⟩ i o hi hl;simp at hl
 rintro _ _ ⟨rfl,rfl⟩
 (refine Wz ?_;clear hK1 K1)
 cases hl:WK o[k - 1] o[k] with
 | false=>
  (refine Ws (an @EY (an @hl @Bool.not_false)) ?_;repeat clear hK K)
  (refine Wg rfl rfl rfl ?_;intro K1 hK1;refine AP rfl ?_;simp only [go_sem];(first | refine hK1 _ ?_ | refine AD (hK1 _ ?_));clear hK1 K1)
  (refine Wr ?_;repeat clear hK K)
  (refine Wt ?_;(repeat clear hK K);repeat refine kq fun K hK=>?_)
  refine WB ?_
  (refine Wt ?_;(repeat clear hK K);repeat refine kq fun K hK=>?_)
  refine WF [] Tryz.results58 ?_
  rw [Pv hg1 (by rw [Nat.sub_add_cancel (by omega)];exact hg) hl]
 | true=>
  (refine Ws (an @EY (an @hl @Bool.not_true)) ?_;repeat clear hK K)
  (refine Wg rfl rfl rfl ?_;intro K1 hK1;refine AP rfl ?_;simp only [go_sem];(first | refine hK1 _ ?_ | refine AD (hK1 _ ?_));clear hK1 K1)
  (refine Wr ?_;repeat clear hK K)
  (refine Wt ?_;(repeat clear hK K);repeat refine kq fun K hK=>?_)
  refine WC ?_
  (refine Wt ?_;(repeat clear hK K);repeat refine kq fun K hK=>?_)
  refine WD ?_
  refine hK _ (k+1) ⟨by omega,fun i a hi ha=>?_,fun i x y hi hx hy=>?_⟩ (by omega) ?_
  rotate_left 2
  ·refine Le.trans (A9 [] rfl rfl) ?_
   (try simp only [List.set_nil,List.take_nil,List.take_zero,List.map_append,go_sem])
   exact WE
  ·by_cases e2:i=k
   ·subst e2;rw [hg] at ha;cases ha;exact hck
   exact hc i a (by omega) ha
  by_cases e2:i+1=k
  rotate_left
  ·exact hs i x y (by omega) hx hy
  have e4:i=k - 1:=by omega
  subst e4
  rw [hg1] at hx;rw [e2,hg] at hy
  cases hx;cases hy;exact hl
theorem OK (o:List Ar) (e:Int) (hv:E2 e=false):FC Tryz.prog 94 [BK o,.i e] [] (fun r q=>q=[]/\r=.a (.c (.v (.slice none 0 0)))):=by
 refine A6 Tryz.func94 rfl (by rw [Tryz.ntmps94];simp) ?_
 rw [Tryz.ntmps94]
 have h:=HJ e
 rw [hv] at h
 simp only [Bf,BK]
 (refine Wt ?_;(repeat clear hK K);repeat refine kq fun K hK=>?_)
 (refine Wy h ?_;intro K1 hK1)
 rintro _ _ ⟨rfl,rfl⟩
 (refine Wz ?_;clear hK1 K1)
 (refine Wu @Bool.not_false ?_;(repeat clear hK K);repeat refine kq fun K hK=>?_)
 refine WB ?_
 (refine Wt ?_;(repeat clear hK K);repeat refine kq fun K hK=>?_)
 exact M6 Tryz.results94
def IJ (o:List Ar) (lo hi:Int):Bool:=if hi=0\/hi=1 then o.any (fun a=>a.1 == lo) else decide ((lo,hi)∈o)
set_option maxHeartbeats 1000000 in
theorem Td (o:List Ar) (lo hi:Int) (hn:o.length<=1000000) (hs:SortA o) (hh:∀ a∈o,0<=a.2) (hc:∀ a∈o,E2 a.1=true):FC Tryz.prog 62 [BK o,.i lo,.i hi] [] (fun r q=>q=[]/\r=.b (IJ o lo hi)):=by
 refine A6 Tryz.func62 rfl (by rw [Tryz.ntmps62];simp) ?_
 rw [Tryz.ntmps62]
 have hcn:=Fo o (lo,hi) (by omega) hs
 have hab:=II o lo (by omega) hs
 have hno:=OK o lo
 simp only [Bf,BK] at hcn hab hno ⊢
 by_cases h01:hi=0\/hi=1
 rotate_left
 ·have hval:IJ o lo hi=decide ((lo,hi)∈o):=by unfold IJ;rw [if_neg h01]
  have h0:(hi == 0)=false:=by simp;omega
  have h1:(hi == 1)=false:=by simp;omega
  rw [hval]
  (refine Wu (an @h0 @h1) ?_;(repeat clear hK K);repeat refine kq fun K hK=>?_)
  refine WC ?_
  (refine Wt ?_;(repeat clear hK K);repeat refine kq fun K hK=>?_)
  (refine Wy hcn ?_;intro K1 hK1)
  rintro _ _ ⟨rfl,rfl⟩
  (refine Wz ?_;clear hK1 K1)
  (refine Wt ?_;(repeat clear hK K);repeat refine kq fun K hK=>?_)
  exact M6 Tryz.results62
 have hval:IJ o lo hi=o.any (fun a=>a.1 == lo):=by unfold IJ;rw [if_pos h01]
 rw [hval]
 cases h0:(hi == 0) <;> cases h1:(hi == 1)
 ·simp at h0 h1;omega
 all_goals
  (refine Wu (an @h0 @h1) ?_;(repeat clear hK K);repeat refine kq fun K hK=>?_)
  refine WB ?_
  (refine Wt ?_;(repeat clear hK K);repeat refine kq fun K hK=>?_)
  cases hv:E2 lo with
  | true=>
   (refine Wy (hab hv hh) ?_;intro K1 hK1)
   rintro _ _ ⟨rfl,W,rfl,hW,hWm⟩
   (refine Wz ?_;clear hK1 K1)
   have e:o.any (fun a=>a.1 == lo)=decide ((W.length:Int) > 0):=by
    cases W with
    | nil=>
     rw [show decide ((([]:List Ar).length:Int) > 0)=false by simp,List.any_eq_false]
     intro a ha h
     have:=(hWm a).2 ⟨ha,by simpa using h⟩
     simp at this
    | cons b W=>
     rw [show decide (((b :: W).length:Int) > 0)=true by simp,List.any_eq_true]
     have:=(hWm b).1 List.mem_cons_self
     exact ⟨b,this.1,by simpa using this.2⟩
   (refine Wu @A2 ?_;(repeat clear hK K);repeat refine kq fun K hK=>?_)
   refine WH Tryz.results62 ?_
   rw [e,show W.length*2 / 2=W.length by omega]
  | false=>
   (refine Wy (hno hv) ?_;intro K1 hK1)
   rintro _ _ ⟨rfl,rfl⟩
   (refine Wz ?_;clear hK1 K1)
   have e:o.any (fun a=>a.1 == lo)=false:=by
    rw [List.any_eq_false]
    intro a ha h
    have h2:=hc a ha
    rw [show a.1=lo by simpa using h,hv] at h2
    cases h2
   (refine Wt ?_;(repeat clear hK K);repeat refine kq fun K hK=>?_)
   refine WH Tryz.results62 ?_
   rw [e]
   rfl
theorem Uy (o:List Ar) (x:Ar) (e:Int) (hn:o.length<=1000000) (hs:SortA o) (hh:∀ a∈o,0<=a.2) (hc:∀ a∈o,E2 a.1=true):FC Tryz.prog 61 [.i e,.a (.c (.p 0 0)),.a (.c (.p 1 0))] [.r ⟨50,1,false,[.t 2 (Ao o)]⟩,.r ⟨46,2,false,[.v (.int .i64 x.1),.v (.int .i64 x.2)]⟩] (fun r q=>q=[.r ⟨50,1,false,[.t 2 (Ao o)]⟩,.r ⟨46,2,false,[.v (.int .i64 x.1),.v (.int .i64 x.2)]⟩]/\r=.b (IJ o x.1 e)):=by
 refine A6 Tryz.func61 rfl (by rw [Tryz.ntmps61];simp) ?_
 rw [Tryz.ntmps61]
 have hb:=Td o x.1 e hn hs hh hc
 simp only [Bf,BK] at hb ⊢
 (refine Wt ?_;(repeat clear hK K);repeat refine kq fun K hK=>?_)
 (refine Wy hb ?_;intro K1 hK1)
 rintro _ _ ⟨rfl,rfl⟩
 (refine Wz ?_;clear hK1 K1)
 (refine Wt ?_;(repeat clear hK K);repeat refine kq fun K hK=>?_)
 exact Lq [0,1] Tryz.results61
theorem M1 (xs:List Int) (p:Int->Bool) (fn e k e2 k2:Nat) (us vs:List Tr) (hn:xs.length<=140737488355328) (hcal:Bh Tryz.prog fn=true)
  (hf:∀ x∈xs,FC Tryz.prog fn [.i x,.a (.c (.p 0 0)),.a (.c (.p 1 0))] [.r ⟨e,k,false,us.map C.ofTr⟩,.r ⟨e2,k2,false,vs.map C.ofTr⟩] (fun r o=>o=[.r ⟨e,k,false,us.map C.ofTr⟩,.r ⟨e2,k2,false,vs.map C.ofTr⟩]/\r=.b (p x))):
  FC Tryz.prog 96 [As xs,.a (.c (.f fn [0,1]))] [.r ⟨e,k,false,us.map C.ofTr⟩,.r ⟨e2,k2,false,vs.map C.ofTr⟩] (fun r o=>o=[.r ⟨e,k,false,us.map C.ofTr⟩,.r ⟨e2,k2,false,vs.map C.ofTr⟩]/\∃ n:Int,r=.i n /\ -1<=n/\(0<=n↔xs.any p=true)):=by
 refine A6 Tryz.func96 rfl (by rw [Tryz.ntmps96];simp) ?_
 rw [Tryz.ntmps96]
 simp only [Bf,As]
 (refine Wt ?_;(repeat clear hK K);repeat refine kq fun K hK=>?_)
 refine A8 (fun i:Nat=>{ tm:=[(0,.a (.c (.t 1 (Ab xs)))),(1,.a (.c (.f fn [0,1]))),(7,.i xs.length),(8,.i i)],hp:=[.r ⟨e,k,false,us.map C.ofTr⟩,.r ⟨e2,k2,false,vs.map C.ofTr⟩],n:=19,pin:=2 }) (fun i=>i<=xs.length/\∀ j x,j<i->xs[j]?=some x->p x=false) (fun i=>xs.length - i) 0 ?_ ?_ ?_
 ·exact ⟨by omega,by intro i x hi;omega⟩
 ·refine BG ?_
  simp only [Dg,A4,go_sem]
  simp
 rintro i ⟨hk,hno⟩ K hK
 (refine Wt ?_;(repeat clear hK K);repeat refine kq fun K hK=>?_)
 (refine At ?_;intro X Y hX hY;simp only [go_sem])
 refine ⟨fun h=>hX ?_,fun h=>hY ?_⟩
 rotate_left
 ·have hge:i=xs.length:=by simp at h;omega
  clear hX hY X Y
  (refine Wx ?_;repeat clear hK K)
  (refine Wt ?_;(repeat clear hK K);repeat refine kq fun K hK=>?_)
  refine WH Tryz.results96 ?_
  refine ⟨-1,rfl,by omega,?_⟩
  simp
  intro x hm
  obtain ⟨j,hj⟩:=List.mem_iff_getElem?.1 hm
  exact hno j x (by rw [hge];exact (List.getElem?_eq_some_iff.1 hj).1) hj
 have hlt:i<xs.length:=by simpa using h
 clear hX hY X Y h
 (refine Wu (an @A4 (Am (gE1 hlt))) ?_;(repeat clear hK K);repeat refine kq fun K hK=>?_)
 (refine Ai rfl ?_;intro K1 hK1;refine AH (ids:=[0,1]) [0,1] (hf xs[i] (gE6 hlt)) rfl rfl (by simp only [go_sem]) (by first | assumption | kernel_rfl) rfl rfl (by (simp only [List.map_append,List.append_nil,go_sem]) <;> rfl) (by (simp only [VS,go_sem]) <;> rfl) ?_ ?_)
 ·rintro _ _ ⟨rfl,rfl⟩;rfl
 rintro _ _ ⟨rfl,rfl⟩
 (refine Wz ?_;clear hK1 K1)
 (refine Wt ?_;(repeat clear hK K);repeat refine kq fun K hK=>?_)
 (refine At ?_;intro X Y hX hY;simp only [go_sem])
 refine ⟨fun h=>hX ?_,fun h=>hY ?_⟩
 ·clear hX hY X Y
  (refine Wt ?_;(repeat clear hK K);repeat refine kq fun K hK=>?_)
  refine WH Tryz.results96 ?_
  exact ⟨i,rfl,by omega,by simp;exact ⟨_,gE6 hlt,h⟩⟩
 clear hX hY X Y
 (refine Wt ?_;(repeat clear hK K);repeat refine kq fun K hK=>?_)
 refine WD ?_
 refine hK _ (i+1) ⟨by omega,fun j x hj hx=>?_⟩ (by omega) ?_
 rotate_left
 ·refine BG ?_
  simp only [Dg,go_sem]
  simp
 by_cases e:j=i
 ·subst e;rw [gE1 hlt] at hx;cases hx;exact h
 exact hno j x (by omega) hx

theorem HL (xs:List Int) (p:Int->Bool) (fn e k e2 k2:Nat) (us vs:List Tr) (hn:xs.length<=140737488355328) (hcal:Bh Tryz.prog fn=true)
  (hf:∀ x∈xs,FC Tryz.prog fn [.i x,.a (.c (.p 0 0)),.a (.c (.p 1 0))] [.r ⟨e,k,false,us.map C.ofTr⟩,.r ⟨e2,k2,false,vs.map C.ofTr⟩] (fun r o=>o=[.r ⟨e,k,false,us.map C.ofTr⟩,.r ⟨e2,k2,false,vs.map C.ofTr⟩]/\r=.b (p x))):
  FC Tryz.prog 60 [As xs,.a (.c (.f fn [0,1]))] [.r ⟨e,k,false,us.map C.ofTr⟩,.r ⟨e2,k2,false,vs.map C.ofTr⟩] (fun r o=>o=[.r ⟨e,k,false,us.map C.ofTr⟩,.r ⟨e2,k2,false,vs.map C.ofTr⟩]/\r=.b (xs.any p)):=by
 refine A6 Tryz.func60 rfl (by rw [Tryz.ntmps60];simp) ?_
 rw [Tryz.ntmps60]
 simp only [Bf,As]
 (refine Wt ?_;(repeat clear hK K);repeat refine kq fun K hK=>?_)
 (refine Ai rfl ?_;intro K1 hK1;refine cs [0,1] (M1 xs p fn e k e2 k2 us vs hn hcal hf) ?_ ?_)
 ·rintro _ _ ⟨rfl,n,rfl,hn1,hn2⟩;rfl
 rintro _ _ ⟨rfl,n,rfl,hn1,hn2⟩
 (refine Wz ?_;clear hK1 K1)
 (refine Wt ?_;(repeat clear hK K);repeat refine kq fun K hK=>?_)
 have e:decide (n>=0)=xs.any p:=by rw [Bool.eq_iff_iff,decide_eq_true_iff];exact hn2
 refine WH Tryz.results60 ?_
 simp only [e]
end Go.Proofs.YtjijjfkalheokaaGreatDoor
