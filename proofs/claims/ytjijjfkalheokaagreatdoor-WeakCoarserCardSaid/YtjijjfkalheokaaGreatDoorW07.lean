/- Lemmas. -/
import Derived.Test.YtjijjfkalheokaaGreatDoorZk
import Derived.Test.YtjijjfkalheokaaGreatDoorW03
import Derived.Test.YtjijjfkalheokaaGreatDoorMno
import Derived.Test.YtjijjfkalheokaaGreatDoorMsm
import Derived.Test.YtjijjfkalheokaaGreatDoorG70
import Derived.Test.YtjijjfkalheokaaGreatDoorG11
import Derived.Test.YtjijjfkalheokaaGreatDoorG37
import Derived.Test.YtjijjfkalheokaaGreatDoorCv1
import Derived.Test.YtjijjfkalheokaaGreatDoorG39
namespace Go.Proofs.YtjijjfkalheokaaGreatDoor
set_option linter.unusedVariables false
set_option linter.unusedSimpArgs false
open Go.RowKit
set_option maxRecDepth 100000
attribute [local go_sem] lga C.pl C.one

def CpC (X:List (List Ar)) (D c:List Int):Prop:=∀ v,v<X.length->c.getD (XG D v) 0=c.getD v 0
theorem Uu {X:List (List Ar)} {D cl:List Int} (hv:Bv X=true) (h:CpOk X D) (hc:Nrm X.length cl) {v:Nat} (hs:v<X.length):Xi (C9 X) cl (XG D v)=Xi (C9 X) cl v:=by
 have hcv:=(BN hv h hs).2.1
 refine Cg (B9 _) (B9 _) fun x=>?_
 show x∈Xi (C9 X) cl (XG D v)↔x∈Xi (C9 X) cl v
 obtain ⟨e,y⟩:=x
 have key:∀ i:Nat,(e,(i:Int))∈Xi (C9 X) cl (XG D v)↔(e,(i:Int))∈Xi (C9 X) cl v:=fun i=>by
  by_cases he:e=0
  ·subst he;rw [Fe hv hcv,Fe hv hs,O6 hv h hs]
  rw [Ff hv hcv he,Ff hv hs he,LU hv h hs]
 constructor
 rotate_left
 ·intro hx
  obtain ⟨i,_,hy⟩:=NZ hv hc hs hx
  simp only at hy
  subst hy
  exact (key i).2 hx
 intro hx
 obtain ⟨i,_,hy⟩:=NZ hv hc hcv hx
 simp only at hy
 subst hy
 exact (key i).1 hx
theorem CpC.next {X:List (List Ar)} {D cl:List Int} (hv:Bv X=true) (hn:X.length<=100) (h:CpOk X D) (hc:Nrm X.length cl) (hC:CpC X D cl):CpC X D (Xk (C9 X) cl):=by
 intro v hs
 have hSl:=(Ht hv hn).1
 have hcv:=(BN hv h hs).2.1
 unfold Xk
 refine ((Cx (Xj (C9 X) cl) (C9 X).length).eq _ _ (by omega) (by omega)).2 ?_
 unfold Xj
 rw [hC v hs,Uu hv h hc hs]
theorem CpC.start {X:List (List Ar)} {D:List Int} {B:List Bool} (hv:Bv X=true) (h:CpOk X D) (hB:DvL X B):CpC X D (Xv B X.length):=by
 intro v hs
 obtain ⟨_,hcv,p3,p4,_⟩:=BN hv h hs
 rw [Jq hcv,Jq hs]
 have e:B.getD (XG D v) false=B.getD v false:=by
  rw [Bool.eq_iff_iff,hB.2 _ hcv,hB.2 _ hs]
  exact ⟨fun ⟨g,q1,q2⟩=>⟨g,p3.trans q1,q2⟩,fun ⟨g,q1,q2⟩=>⟨g,p4.trans q1,q2⟩⟩
 unfold Xu
 rw [e]
theorem KeyOf.cp {X:List (List Ar)} {D cl L:List Int} (hv:Bv X=true) (h:CpOk X D) (hC:CpC X D cl) {v:Nat} (hs:v<X.length) (hk:KeyOf X cl (XG D v) L):KeyOf X cl v L:=by
 obtain ⟨t,V,e1,e2,e3,e4,e5⟩:=hk.ex
 refine ⟨t,V,by rw [<- hC v hs];exact e1,e2.iff fun i _=>O6 hv h hs,e3,fun p hp=>?_,fun e i hr=>e5 e i ((LU hv h hs).2 hr)⟩
 obtain ⟨a1,a2,i,a3⟩:=e4 p hp
 exact ⟨a1,a2.iff fun i _=>LU hv h hs,i,(LU hv h hs).1 a3⟩
theorem Uv {X:List (List Ar)} {cl:List Int} (hv:Bv X=true) {s i:Nat} {e:Int} (h:RV X cl s e i):0<=e/\e<=1025:=by
 obtain ⟨_,u,hu,_,a,ha,rfl,_⟩:=h
 have:=EJ hv hu ha
 exact ⟨this.1,this.2.1⟩
theorem KeyOf.mk2 {X:List (List Ar)} {cl:List Int} (hv:Bv X=true) (hc:Nrm X.length cl) (hn:X.length<=64) {s w:Nat} {H:List Ob} {V:List (Int × Nat × Nat)} {VL:List (Int × Nat)} (hw:WS w (RT X cl s)) (hV:VSt H 6 V (RV X cl s)) (h1:WI (VL.map (·.1))) (h2:∀ q,q∈VL↔∃ p∈V,q=(p.1,p.2.2)):KeyOf X cl s (FM (cl.getD s 0) w VL):=by
 refine ⟨w,VL,rfl,hw,h1,fun q hq=>?_,fun e i hr=>?_⟩
 rotate_left
 ·have hi:=UY hv hc hr
  obtain ⟨p,hp,rfl,_⟩:=(hV.ex e i (by omega)).2 hr
  exact List.mem_map.2 ⟨_,(h2 _).2 ⟨p,hp,rfl⟩,rfl⟩
 obtain ⟨p,hp,rfl⟩:=(h2 q).1 hq
 obtain ⟨o1,o2,o3,i,hi,ho⟩:=hV.ob p hp
 have hex:=(hV.ex p.1 i hi).1 ⟨p,hp,rfl,ho⟩
 refine ⟨Uv hv hex,⟨o3,fun i hi=>?_⟩,i,hex⟩
 rw [<- hV.ex p.1 i hi]
 constructor
 ·intro hb;exact ⟨p,hp,rfl,hb⟩
 rintro ⟨p',hp',e1,hb⟩
 rw [<- Gv hV.nd hp' hp e1];exact hb
theorem KeyOf.nn {X:List (List Ar)} {cl L:List Int} (hc:Nrm X.length cl) (hn:X.length<=64) {s:Nat} (hs:s<X.length) (h:KeyOf X cl s L):UX L:=by
 obtain ⟨t,V,rfl,e2,e3,e4,e5⟩:=h.ex
 have hcl:=hc.len
 have hm:cl.getD s 0∈cl:=by rw [gE2,gE1 (by omega)];exact gE6 _
 have hr:=hc.rng _ hm
 intro x hx
 unfold FM at hx
 simp only [List.mem_cons,List.mem_append,List.mem_flatMap] at hx
 rcases hx with rfl | rfl | hx | ⟨p,hp,rfl | rfl | hx⟩
 ·omega
 ·have:=CP t;omega
 ·have:=KW x hx;omega
 ·have:=(e4 p hp).1;omega
 ·have:=CP p.2;omega
 have:=KW x hx;omega
theorem V4 {X:List (List Ar)} {cl:List Int} {ky:List Value} (hv:Bv X=true) (hn:X.length<=64) (hc:Nrm X.length cl) (hl:ky.length=X.length) (h:∀ s,s<X.length->∃ L,ky[s]?=some (Jx L)/\KeyOf X cl s L):Tu ky (Xj (C9 X) cl):=by
 intro a b ha hb
 rw [hl] at ha hb
 obtain ⟨L,h1,h2⟩:=h a ha
 obtain ⟨M,h3,h4⟩:=h b hb
 rw [gE2,h1,gE2,h3,Option.getD_some,Option.getD_some,Sq (h2.nn hc hn ha) (h4.nn hc hn hb)]
 congr 1
 rw [decide_eq_decide]
 exact KeyOf.iff hv hn hc ha hb h2 h4
theorem HS.setK {r0:Row} {n:Nat} {H:List Ob} {tc vc:List C} {ky:List Value} (h:HS r0 ⟨9,1,true,ZG ky⟩ n H tc vc) (ky':List Value):HS r0 ⟨9,1,true,ZG ky'⟩ n (H.set 1 (.r ⟨9,1,true,ZG ky'⟩)) tc vc:=
 ⟨by rw [gE5 (by omega)];exact h.h0,gEc (Br h.hx),by rw [gE5 (by omega)];exact h.h1,by rw [gE5 (by omega)];exact h.h2,by rw [gE5 (by omega)];exact h.h3,by rw [gE5 (by omega)];exact h.h4,C2 h.ok (y:=.r ⟨9,1,true,ZG ky'⟩) (by show (ZG ky').all C.pl=true;simp [ZG,C.pl]) 1⟩
theorem TA.set1 {X:List (List Ar)} {cl:List Int} {Q:List Nat} {k:Nat} {H:List Ob} {tc:List C} (h:TA X cl Q k H tc) (ob:Ob):TA X cl Q k (H.set 1 ob) tc:=⟨h.1,h.2.1,fun j c hj hc=>by
 obtain ⟨y,w,a,b,d,e⟩:=h.2.2 j c hj hc
 exact ⟨y,w,a,b,by rw [gE5 (by omega)];exact d,e⟩⟩
theorem TB.set1 {X:List (List Ar)} {cl:List Int} {Q:List Nat} {k:Nat} {H:List Ob} {vc:List C} (h:TB X cl Q k H vc) (ob:Ob):TB X cl Q k (H.set 1 ob) vc:=⟨h.1,h.2.1,fun j c hj hc=>by
 obtain ⟨m,V,a,a2,b,d⟩:=h.2.2 j c hj hc
 refine ⟨m,V,a,a2,by rw [gE5 (by omega)];exact b,d.nd,d.nk,fun p hp=>?_,d.ex⟩
 obtain ⟨q1,q2,q3⟩:=d.ob p hp
 exact ⟨q1,by rw [gE5 (by omega)];exact q2,q3⟩⟩
theorem Uw (ky:List Value):(ZG ky).all C.pl=true:=by simp [ZG,C.pl]
section
variable {o : Oper} {st : ST} {K : ST -> Prop} {α : Type} [DecidableEq α]
theorem H4 {x:Operand} {ts:Array TypeId} {a:Nat} {ky:List Value} (g:Nat->α) (hky:Tu ky g) (hn:ky.length<=1000000) (hd:VJ o st.n=true) (ho:o.op=.call { callee:=.value (.func 76),args:=#[x],argTypes:=ts }) (hx:st.ev x=.a (.c (.s a ky.length))) (ha:st.hp[a]?=some (.r ⟨9,1,true,ZG ky⟩))
  (hnb:Fi [a] st.tm=st.tm) (h:K ({ st with hp:=st.hp++[AA (Xh g ky.length).1] }.put o.dst (.tup [.c (.s st.hp.length ky.length),.c (.v (.int .i64 (Xh g ky.length).2))]))):Stp Tryz.prog o st K:=by
 have i1:idx [a] a 0=some 0:=by simp [idx]
 have hren:(Ob.r ⟨9,1,true,ZG ky⟩).ren [a]=.r ⟨9,1,true,ZG ky⟩:=by simp [Ob.ren,Fd]
 refine AH (ids:=[]) [a] (SN ky g hky hn) hd ho rfl (by kernel_rfl) rfl (by simp [Br ha]) ?_ ?_ ?_ ?_
 ·simp [hx,Em,AV.ren,A0.ren,C.ren,i1]
 ·simp only [VS,List.map_cons,List.map_nil,D0 ha,hren]
 ·rintro r outs ⟨rfl,rfl⟩;rfl
 rintro r outs ⟨rfl,rfl⟩
 have e:st.back [a] [.r ⟨9,1,true,ZG ky⟩,AA (Xh g ky.length).1]={ st with hp:=st.hp++[AA (Xh g ky.length).1] }:=by
  unfold ST.back
  rw [hnb]
  have e2:(Ob.r ⟨9,1,true,ZG ky⟩).up (VV [a] st.hp.length)=.r ⟨9,1,true,ZG ky⟩:=by simp [Ob.up,Uq]
  simp only [List.map_cons,List.map_nil,HG,e2,Cb]
  rw [FN ha]
 rw [e]
 have e3:(AV.tup [.c (.s 1 ky.length),.c (.v (.int .i64 (Xh g ky.length).2))]).up (VV [a] st.hp.length)=.tup [.c (.s st.hp.length ky.length),.c (.v (.int .i64 (Xh g ky.length).2))]:=by simp [AV.up,A0.up,C.up,VV]
 rw [e3];exact h
end
set_option maxHeartbeats 8000000 in
theorem T6 (X:List (List Ar)) (D:List Int) (Q:List Nat) (dv:List Bool) (hv:Bv X=true) (hn:X.length<=64) (hr:∀ r∈X,r.length<=1000000) (hD:CpOk X D) (hQ:Hr (Xy (XG D) X X.length) X.length (XG D) Q) (hB:DvL X dv):FC Tryz.prog 41 [.a (.c (.p 0 0))] [.r (Y9 X D (Q.map Int.ofNat) (Y6 (XG D) X.length) dv)] (fun r o=>∃ c,WkC X c/\Nrm X.length c/\r=As c/\o=[.r (Y9 X D (Q.map Int.ofNat) (Y6 (XG D) X.length) dv)]):=by
 refine A6 Tryz.func41 rfl (by rw [Tryz.ntmps41];simp) ?_
 rw [Tryz.ntmps41]
 have hlo:BE X=true:=gEg (gE4 hv).1
 have h1:1<=X.length:=(gE4 hlo).1
 have hDl:=hD.1
 have hBl:=hB.1
 simp only [Bf,Y9]
 (refine Wu (an @A3 (an @BD @hBl)) ?_;(repeat clear hK K);repeat refine kq fun K hK=>?_)
 have e0:List.replicate X.length (C.v (.string { data:=#[] }))=ZG (Y3 Yh Yi dv X.length 0):=by rw [Qd];simp [ZG,Yi]
 rw [e0]
 refine A8 (fun k:Nat=>{ tm:=[(0,.a (.c (.p 0 0))),(3,.a (.c (.s 1 X.length))),(23,.a (.c (.t 1 (X6 dv)))),(24,.i X.length),(25,.i k)],hp:=[.r (Y9 X D (Q.map Int.ofNat) (Y6 (XG D) X.length) dv),.r ⟨9,1,true,ZG (Y3 Yh Yi dv X.length k)⟩],n:=86,pin:=1 }) (fun k=>k<=X.length) (fun k=>X.length - k) 0 ?_ ?_ ?_
 ·omega
 ·simp only [Y9]
  exact WE
 rintro k hk K hK
 simp only [Y9]
 by_cases hlt:k<X.length
 ·have d1:decide ((k:Int)<(X.length:Int))=true:=by simpa using hlt
  have gB:(X6 dv)[k]?=some (.v (.bool (dv.getD k false))):=F7 (by rw [gE2,gE1 (by omega)];rfl)
  have hkt:=Qe (kd:=Yh) (ke:=Yi) (B:=dv) (n:=X.length) (k:=k)
  have hkf:=NV (kd:=Yh) (ke:=Yi) (B:=dv) (n:=X.length) (k:=k)
  have hkl:=Hx Yh Yi dv X.length k
  generalize dv.getD k false=b at *
  (refine Wu @d1 ?_;(repeat clear hK K);repeat refine kq fun K hK=>?_)
  refine WB ?_
  (refine Wu (an @BD (an @hBl @gB)) ?_;(repeat clear hK K);repeat refine kq fun K hK=>?_)
  cases b with
  | true=>
   have hkt:=hkt rfl
   refine WB ?_
   have hks:(ZG (Y3 Yh Yi dv X.length k)).set k (C.v (Value.string { data:=#[100,105,118,101,114,103,101,110,116] }))=ZG (Y3 Yh Yi dv X.length (k+1)):=by rw [<- hkt];exact Jz _ _ _
   (refine Cn (an @Gt (an @hkl @hks)) ?_;(repeat clear hK K);repeat refine kq fun K hK=>?_)
   refine WD ?_
   refine hK _ (k+1) (by omega) (by omega) ?_
   simp only [Y9]
   exact WE
  | false=>
   have hkf:=hkf rfl
   refine WC ?_
   (refine Wt ?_;(repeat clear hK K);repeat refine kq fun K hK=>?_)
   refine WD ?_
   refine hK _ (k+1) (by omega) (by omega) ?_
   rw [hkf]
   simp only [Y9]
   exact WE
 have d1:decide ((k:Int)<(X.length:Int))=false:=by simpa using hlt
 have hke:k=X.length:=by omega
 rw [hke] at d1
 rw [hke]
 have hko:=Uh (kd:=Yh) (ke:=Yi) (by kernel_rfl) (by kernel_rfl) (by kernel_rfl) (by kernel_rfl) dv X.length
 have hkl:=Hx Yh Yi dv X.length X.length
 obtain ⟨hnm,_⟩:=U5 (B:=dv) X.length h1
 have hN0:=NC dv h1
 have hC0:=CpC.start hv hD hB
 have hc0:F9 X.length (Xv dv X.length)=(Xh (fun s=>dv.getD s false) X.length).2:=by rw [<- hnm,NA]
 generalize Y3 Yh Yi dv X.length X.length=ky0 at *
 (refine Wu @d1 ?_;(repeat clear hK K);repeat refine kq fun K hK=>?_)
 refine WC ?_
 (refine Wx ?_;repeat clear hK K)
 (refine Wt ?_;(repeat clear hK K);repeat refine kq fun K hK=>?_)
 (refine Ai rfl ?_;intro K1 hK1;refine H4 (a:=1) (ky:=ky0) (fun s=>dv.getD s false) hko (by omega) rfl rfl (by simp only [go_sem,hkl]) rfl (by simp [Fi,AV.nb,A0.nb,C.nb]) ?_;simp only [go_sem];refine hK1 _ ?_;clear hK1 K1)
 rw [hkl,hnm,<- hc0]
 clear hnm hc0
 generalize hc00:Xv dv X.length=c0 at *
 have hN0l:=hN0.len
 (refine Wt ?_;(repeat clear hK K);repeat refine kq fun K hK=>?_)
 simp only [AA,List.length_cons,List.length_nil,Nat.zero_add,List.cons_append,List.nil_append]
 have hf0:(if X.length<=(Ab c0).length then C.t 1 ((Ab c0).take X.length) else C.u)=C.t 1 (Ab c0):=by rw [if_pos (by rw [A4];omega),gE7 (by rw [A4];omega)]
 (refine Au (Bg (r:=⟨3,1,true,A7 c0⟩) 2 (Ab c0) rfl (EM _) (show 0<(1:Nat) by omega)) ?_;simp only [ST.frz,A0.frz,AV.frz,C.frz,Nat.le_refl,List.set_cons_zero,List.set_cons_succ,go_sem,hf0])
 have hSl:=(Ht hv (by omega)).1
 refine A8 (fun x:Nat × List Int × List Value=>{ tm:=[(0,.a (.c (.p 0 0))),(3,.a (.c (.s 1 X.length))),(6,.a (.c (.t 1 (Ab x.2.1)))),(7,.i (F9 X.length x.2.1))],hp:=[.r (Y9 X D (Q.map Int.ofNat) (Y6 (XG D) X.length) dv),.r ⟨9,1,true,ZG x.2.2⟩],n:=86,pin:=1 }) (fun x=>x.2.1=Xl (C9 X) c0 x.1/\Nrm X.length x.2.1/\CpC X D x.2.1/\x.2.2.length=X.length) (fun x=>X.length - F9 X.length x.2.1) (0,c0,ky0) ?_ ?_ ?_
 ·exact ⟨rfl,hN0,hC0,hkl⟩
 ·refine Le.trans (A9 [0,1] rfl rfl) ?_
  (try simp only [List.set_nil,List.take_nil,List.take_zero,List.map_append,go_sem])
  (try simp only [Fd])
  simp only [Y9]
  exact WE
 clear hk hlt d1 hke hko
 rintro ⟨j,nw,ky⟩ ⟨hit,hN,hC,hkyl⟩ K hK
 simp only at hit hN hC hkyl
 simp only
 have hcn:=KK X.length nw
 have hNl:=hN.len
 have hcn1:1<=F9 X.length nw:=by
  have:=(Cx (fun s=>nw.getD s 0) X.length).rng 0 (by omega)
  unfold F9;omega
 have hnn:=NB (C9 X) nw
 have hnl:=U4 (S:=C9 X) (by rw [hSl];exact hN)
 rw [hSl] at hnn hnl
 have hcn2:=KK X.length (Xk (C9 X) nw)
 have hnc:F9 X.length (Xk (C9 X) nw)=(Xh (Xj (C9 X) nw) X.length).2:=by
  have:=NA (Xj (C9 X) nw) X.length
  unfold Xk;rw [hSl];exact this
 have hnc1:(Xh (Xj (C9 X) nw) X.length).1=Xk (C9 X) nw:=by unfold Xk;rw [hSl]
 have hCn:=hC.next hv (by omega) hD hN
 (refine Wt ?_;(repeat clear hK K);repeat refine kq fun K hK=>?_)
 (refine Ai rfl ?_;intro K1 hK1;refine Di (f:=77) (ids:=[]) (R:=fun r o=>r=.a (.c (.p 5 0))/\∃ tc vc,HS (Y9 X D (Q.map Int.ofNat) (Y6 (XG D) X.length) dv) ⟨9,1,true,ZG ky⟩ X.length o tc vc/\TA X nw Q Q.length o tc/\TB X nw Q Q.length o vc) rfl rfl (by simp only [go_sem]) (by kernel_rfl) (Un X D nw Q dv (F9 X.length nw) ⟨9,1,true,ZG ky⟩ (Uw ky) (Fd ky) hv hn hr hD hQ hN hcn1 (by omega)) (fun r outs h=>Hz h.2.choose_spec.choose_spec.1.ok) ?_)
 rintro r G ⟨rfl,tc,vc,hH,hT,hTB⟩
 (simp only [go_sem];refine hK1 _ ?_;clear hK1 K1)
 have gs:=hH.h0
 (refine Wu (an @gs (an @GC (an @A4 @hDl))) ?_;(repeat clear hK K);repeat refine kq fun K hK=>?_)
 refine A8 (fun x:Nat × List Ob × List Value=>{ tm:=[(0,.a (.c (.p 0 0))),(3,.a (.c (.s 1 X.length))),(6,.a (.c (.t 1 (Ab nw)))),(7,.i (F9 X.length nw)),(8,.a (.c (.p 5 0))),(47,.a (.c (.t 1 (Ab D)))),(48,.i X.length),(49,.i x.1)],hp:=x.2.1,n:=86,pin:=1 }) (fun x=>x.1<=X.length/\x.2.2.length=X.length/\(∀ s,s<x.1->∃ L,x.2.2[s]?=some (Jx L)/\KeyOf X nw s L)/\HS (Y9 X D (Q.map Int.ofNat) (Y6 (XG D) X.length) dv) ⟨9,1,true,ZG x.2.2⟩ X.length x.2.1 tc vc/\TA X nw Q Q.length x.2.1 tc/\TB X nw Q Q.length x.2.1 vc) (fun x=>X.length - x.1) (0,G,ky) ?_ ?_ ?_
 ·exact ⟨by simp,hkyl,fun s hs=>by simp at hs,hH,hT,hTB⟩
 ·exact WE
 clear hH hT hTB gs hkyl
 rintro ⟨k,G,ky⟩ ⟨hk,hkyl,hkys,hH,hT,hTB⟩ K hK
 simp only at hk hkyl hkys hH hT hTB
 simp only
 by_cases hlk:k<X.length
 rotate_left
 ·have d2:decide ((k:Int)<(X.length:Int))=false:=by simpa using hlk
  have hke:k=X.length:=by omega
  have hko:=V4 hv hn hN hkyl (fun s hs=>hkys s (by omega))
  have g0:=hH.h0
  have g1:=hH.hx
  (refine Wu @d2 ?_;(repeat clear hK K);repeat refine kq fun K hK=>?_)
  refine WC ?_
  (refine Wx ?_;repeat clear hK K)
  (refine Wt ?_;(repeat clear hK K);repeat refine kq fun K hK=>?_)
  (refine Ai rfl ?_;intro K1 hK1;refine H4 (a:=1) (ky:=ky) (Xj (C9 X) nw) hko (by omega) rfl rfl (by simp only [go_sem,hkyl]) g1 (by simp [Fi,AV.nb,A0.nb,C.nb]) ?_;simp only [go_sem];refine hK1 _ ?_;clear hK1 K1)
  rw [hkyl,hnc1,<- hnc]
  (refine Wt ?_;(repeat clear hK K);repeat refine kq fun K hK=>?_)
  have hG6:=Br hH.h4
  obtain ⟨lg,hlg⟩:∃ l,G.length=l:=⟨_,rfl⟩
  rw [hlg] at hG6
  simp only [hlg]
  have gn:=Bp G (AA (Xk (C9 X) nw))
  rw [hlg] at gn
  have g0':=(Pre.push G (AA (Xk (C9 X) nw))).at g0
  have g1':=(Pre.push G (AA (Xk (C9 X) nw))).at g1
  generalize G++[AA (Xk (C9 X) nw)]=G2 at *
  refine Au (BG (tm:=[(0,.a (.c (.p 0 0))),(3,.a (.c (.s 1 X.length))),(6,.a (.c (.t 1 (Ab nw)))),(7,.i (F9 X.length nw)),(11,.a (.c (.s lg X.length))),(12,.i (F9 X.length (Xk (C9 X) nw))),(82,.b (((F9 X.length (Xk (C9 X) nw):Nat):Int) == ((F9 X.length nw:Nat):Int)))]) ?_) ?_
  ·simp only [Dg,go_sem];try simp
  have i1:idx [0,1,lg] 1 0=some 1:=by simp [idx]
  have i2:idx [0,1,lg] lg 0=some 2:=by
   have e1:¬ 0=lg:=by omega
   have e2:¬ 1=lg:=by omega
   simp [idx,e1,e2]
  refine Au (A9 [0,1,lg] ?_ rfl) ?_
  ·have e1:¬ 0=lg:=by omega
   have e2:¬ 1=lg:=by omega
   simp [Ba];omega
  have i0:idx [0,1,lg] 0 0=some 0:=rfl
  have hr1:(Ob.r (Y9 X D (Q.map Int.ofNat) (Y6 (XG D) X.length) dv)).ren [0,1,lg]=.r (Y9 X D (Q.map Int.ofNat) (Y6 (XG D) X.length) dv):=by simp [Ob.ren,Y9,C.ren]
  have hr2:(Ob.r ⟨9,1,true,ZG ky⟩).ren [0,1,lg]=.r ⟨9,1,true,ZG ky⟩:=by simp [Ob.ren,Fd]
  have hr3:=Gw (Xk (C9 X) nw) [0,1,lg]
  simp only [ST.pick,List.map_cons,List.map_nil,AV.ren,A0.ren,C.ren,AV.i,AV.b,i0,i1,i2,D0 g0',D0 g1',D0 gn,hr1,hr2,hr3]
  by_cases hceq:F9 X.length (Xk (C9 X) nw)=F9 X.length nw
  ·have hfx:Xk (C9 X) nw=nw:=Decidable.byContradiction fun h=>by have:=hnl h;omega
   have d4:(((F9 X.length (Xk (C9 X) nw):Nat):Int) == ((F9 X.length nw:Nat):Int))=true:=by rw [hceq];simp
   simp only [d4]
   refine WB ?_
   (refine Wt ?_;(repeat clear hK K);repeat refine kq fun K hK=>?_)
   ((try refine Av ?_);(try simp only [Ae,AF]);refine B6 (A9 [0] rfl rfl) ?_;(try simp only [List.set_nil,List.take_nil,List.take_zero,List.map_append,go_sem]);((try refine Av ?_);(try refine Aa ?_);(try simp only [Ae,AF]);refine Bj (by first | exact .inl rfl | exact .inr rfl) rfl ?_;simp only [VU,Dy,Du,DL,Tryz.results41,go_sem,true_and,and_true,As,Y9]))
   exact ⟨nw,⟨dv,hB,j,by rw [hc00];exact hit,hfx⟩,hN,rfl⟩
  have hne:Xk (C9 X) nw ≠ nw:=fun h=>hceq (by rw [h])
  have hlt2:=hnl hne
  have d4:(((F9 X.length (Xk (C9 X) nw):Nat):Int) == ((F9 X.length nw:Nat):Int))=false:=by simp only [beq_eq_false_iff_ne,ne_eq];omega
  simp only [d4]
  refine WC ?_
  (refine Wt ?_;(repeat clear hK K);repeat refine kq fun K hK=>?_)
  refine WD ?_
  refine hK _ (j+1,Xk (C9 X) nw,ky) ⟨?_,hnn,hCn,hkyl⟩ (by simp only;omega) ?_
  ·simp only
   rw [show Xl (C9 X) c0 (j+1)=Xk (C9 X) (Xl (C9 X) c0 j) from rfl,<- hit]
  simp only
  have hw2l:=hnn.len
  generalize hw2:Xk (C9 X) nw=w2 at *
  have hf0:(if X.length<=(Ab w2).length then C.t 1 ((Ab w2).take X.length) else C.u)=C.t 1 (Ab w2):=by rw [if_pos (by rw [A4];omega),gE7 (by rw [A4];omega)]
  simp only [AA]
  (refine SO (Bg (r:=⟨3,1,true,A7 w2⟩) 2 (Ab w2) rfl (EM _) (show 0<(1:Nat) by omega)) ?_;simp only [ST.frz,A0.frz,AV.frz,C.frz,Nat.le_refl,List.set_cons_zero,List.set_cons_succ,go_sem,hf0])
  refine Le.trans (A9 [0,1] rfl rfl) ?_
  (try simp only [List.set_nil,List.take_nil,List.take_zero,List.map_append,go_sem])
  (try simp only [Fd])
  simp only [Y9]
  exact WE
 have d2:decide ((k:Int)<(X.length:Int))=true:=by simpa using hlk
 obtain ⟨gD0,hfk,hr1,hr2,hff⟩:=BN hv hD hlk
 have gD:=Am gD0
 have hle:XG D k<=k:=by
  obtain ⟨m,e1,_,_,e4⟩:=hD.2 k hlk
  rw [NG gD0] at e1
  have:=e4 k (.refl _) (.refl _)
  omega
 have g1:=hH.hx
 have hcl:(ZG ky).length=X.length:=by rw [Gt,hkyl]
 (refine Wu @d2 ?_;(repeat clear hK K);repeat refine kq fun K hK=>?_)
 refine WB ?_
 (refine Wu (an @gD (an @A4 @hDl)) ?_;(repeat clear hK K);repeat refine kq fun K hK=>?_)
 by_cases hek:XG D k=k
 rotate_left
 ·have d3:((k:Int) == ((XG D k:Nat):Int))=false:=by simp only [beq_eq_false_iff_ne,ne_eq];omega
  simp only [d3]
  obtain ⟨L,q1,q2⟩:=hkys (XG D k) (by omega)
  have hko:=q2.cp hv hD hC hlk
  obtain ⟨sb,hsb⟩:∃ b,Jx L=Value.string b:=⟨_,rfl⟩
  rw [hsb] at q1
  have gk:(ZG ky)[XG D k]?=some (.v (.string sb)):=by simp [ZG,q1]
  refine WC ?_
  (refine Cn (an @g1 (an @hcl (an @gk @Jz))) ?_;(repeat clear hK K);repeat refine kq fun K hK=>?_)
  refine BC (fun G3=>HS (Y9 X D (Q.map Int.ofNat) (Y6 (XG D) X.length) dv) ⟨9,1,true,ZG (ky.set k (.string sb))⟩ X.length G3 tc vc/\TA X nw Q Q.length G3 tc/\TB X nw Q Q.length G3 vc) ?_ ?_
  ·exact ⟨hH.setK _,hT.set1 _,hTB.set1 _⟩
  rintro G3 ⟨hH3,hT3,hTB3⟩
  simp only
  refine WD ?_
  refine hK _ (k+1,G3,ky.set k (.string sb)) ⟨by simp only;omega,by simp only;rw [List.length_set];exact hkyl,?_,hH3,hT3,hTB3⟩ (by simp only;omega) ?_
  rotate_left
  ·exact WE
  intro s hs
  simp only at hs ⊢
  by_cases e:s=k
  ·subst e
   exact ⟨L,by rw [hsb,gEc (by omega)],hko⟩
  obtain ⟨M,q1,q2⟩:=hkys s (by omega)
  exact ⟨M,by rw [gE5 (Ne.symm e)];exact q1,q2⟩
 rw [hek] at gD ⊢
 have d3:((k:Int) == (k:Int))=true:=by simp
 simp only [d3]
 obtain ⟨j',hj',hQj⟩:=List.getElem_of_mem ((hQ.2.1 k).2 ⟨hlk,hek⟩)
 obtain ⟨x,w,tx1,tx2,tx3,tx4⟩:=hT.2.2 j' k hj' (by rw [gE1 hj',hQj])
 obtain ⟨m,V,ty1,ty2,ty3,ty4⟩:=hTB.2.2 j' k hj' (by rw [gE1 hj',hQj])
 have gW:=Am (show nw[k]?=some (nw.getD k 0) from by rw [gE2,gE1 (by omega)];rfl)
 have hVl:V.length<=2000:=by
  have h:=Da (m:=(List.range 1026).map Int.ofNat) ty4.nd (fun e he=>by
   obtain ⟨p,hp,rfl⟩:=List.mem_map.1 he
   obtain ⟨_,_,_,i,hi,ho⟩:=ty4.ob p hp
   have hr3:=Uv hv ((ty4.ex p.1 i hi).1 ⟨p,hp,rfl,ho⟩)
   exact List.mem_map.2 ⟨p.1.toNat,by rw [List.mem_range];omega,by simp only [Int.ofNat_eq_natCast];omega⟩)
  rw [List.length_map,List.length_map,List.length_range] at h
  omega
 have hkm:=fun VL h1 h2=>KeyOf.mk2 (VL:=VL) hv hN hn tx4 ty4 h1 h2
 generalize nw.getD k 0=x0 at *
 refine WB ?_
 (refine Wu (an @gW (an @A4 @hNl)) ?_;(repeat clear hK K);repeat refine kq fun K hK=>?_)
 (refine Ai rfl ?_;intro K1 hK1;refine Di (f:=78) (ids:=[]) (R:=fun r o=>(∃ VL:List (Int × Nat),WI (VL.map fun q:Int × Nat=>q.1)/\(∀ q,q∈VL↔∃ p∈V,q=(p.1,p.2.2))/\r=.a (.c (.v (Jx (FM x0 w VL)))))/\Pre G o/\o.all Cd=true) rfl rfl (by simp only [go_sem]) (by kernel_rfl) (SM G 5 3 4 X.length k x m w x0 tc vc V hH.h4 hH.h2 hH.h3 hT.1 hTB.1 (by omega) hlk tx1 tx3 tx4.1 ty1 ty3 ty4.nd (fun p hp=>by obtain ⟨_,a2,a3,_⟩:=ty4.ob p hp;exact ⟨a2,a3⟩) hVl hH.ok) (fun r outs h=>Hz h.2.2) ?_)
 rintro r G2 ⟨⟨VL,hV1,hV2,rfl⟩,hP2,hok2⟩
 have hko:=hkm VL hV1 hV2
 obtain ⟨L,hL⟩:∃ L,FM x0 w VL=L:=⟨_,rfl⟩
 rw [hL] at hko ⊢
 obtain ⟨sb,hsb⟩:∃ b,Jx L=Value.string b:=⟨_,rfl⟩
 rw [hsb]
 (simp only [go_sem];refine hK1 _ ?_;clear hK1 K1)
 have hH2:=hH.pre hP2 hok2
 have g2:=hP2.at g1
 (refine Cn (an @g2 (an @hcl @Jz)) ?_;(repeat clear hK K);repeat refine kq fun K hK=>?_)
 refine BC (fun G3=>HS (Y9 X D (Q.map Int.ofNat) (Y6 (XG D) X.length) dv) ⟨9,1,true,ZG (ky.set k (.string sb))⟩ X.length G3 tc vc/\TA X nw Q Q.length G3 tc/\TB X nw Q Q.length G3 vc) ?_ ?_
 ·exact ⟨hH2.setK _,(hT.pre hP2).set1 _,(hTB.pre hP2).set1 _⟩
 rintro G3 ⟨hH3,hT3,hTB3⟩
 simp only
 refine WD ?_
 refine hK _ (k+1,G3,ky.set k (.string sb)) ⟨by simp only;omega,by simp only;rw [List.length_set];exact hkyl,?_,hH3,hT3,hTB3⟩ (by simp only;omega) ?_
 rotate_left
 ·exact WE
 intro s hs
 simp only at hs ⊢
 by_cases e:s=k
 ·subst e
  exact ⟨L,by rw [hsb,gEc (by omega)],hko⟩
 obtain ⟨M,q1,q2⟩:=hkys s (by omega)
 exact ⟨M,by rw [gE5 (Ne.symm e)];exact q1,q2⟩
theorem WkC.uniq {R:List (List Ar)} {c d:List Int} (h1:WkC R c) (h2:WkC R d):c=d:=by
 obtain ⟨B,b1,b2⟩:=h1
 obtain ⟨B',b3,b4⟩:=h2
 have e:=b1.uniq b3
 subst e
 exact b2.uniq b4
theorem YA {A R:List (List Ar)} (hA:Bv A=true) (hv:Bv R=true) (hn:A.length+R.length<=100) (ht:Bw A+Bw R<=1000):Bv (Eo A R)=true:=NH (.inr hA) hv (by show A.length+R.length<=16384;omega) (by show Bw A+Bw R<=262144;omega)
theorem YG {c:List Int} {i:Nat} (h:i<c.length):(Ab c)[i]?=some (.v (.int .i64 (c.getD i 0))):=Am (by rw [gE2,gE1 h];rfl)
set_option maxHeartbeats 2000000 in
theorem Ux (R:List (List Ar)) (hv:Bv R=true) (hn:R.length<=64) (hr:∀ r∈R,r.length<=1000000):FC Tryz.prog 20 [B7 R] [] (fun r o=>∃ c,WkC R c/\Nrm R.length c/\o=[]/\r=As c):=by
 refine A6 Tryz.func20 rfl (by rw [Tryz.ntmps20];simp) ?_
 rw [Tryz.ntmps20]
 simp only [Bf,B7]
 have hlo:BE R=true:=gEg (gE4 hv).1
 have hbL:L6 [R]=R:=Q4 R
 (refine Wt ?_;(repeat clear hK K);repeat refine kq fun K hK=>?_)
 (refine Wy (CD R (by omega) (fun r h=>by have:=hr r h;omega)) ?_;intro K1 hK1)
 rintro _ _ ⟨rfl,rfl⟩
 (refine Wz ?_;clear hK1 K1)
 rw [hv]
 (refine Wu @Bool.not_true ?_;(repeat clear hK K);repeat refine kq fun K hK=>?_)
 refine WC ?_
 (refine Wt ?_;(repeat clear hK K);repeat refine kq fun K hK=>?_)
 have hf:(if 1<=(Ya [R]).length then C.t 1 ((Ya [R]).take 1) else C.u)=C.t 1 (Ya [R]):=rfl
 (refine BS (Bg (r:=⟨25,1,true,[.t 1 (Ah R)]⟩) 1 (Ya [R]) rfl ⟨.inl rfl,trivial⟩ (show 0<(1:Nat) by omega)) ?_;simp only [ST.frz,A0.frz,AV.frz,C.frz,Nat.le_refl,List.set_cons_zero,List.set_cons_succ,go_sem,hf])
 have hns:=SI [R] (by simp) (by simp) (by simpa using hv) (by simpa using hr) (by have:=(gE4 hlo).2.1;simpa using this) (by have:=(gE4 hlo).2.2.1;simpa using this)
 rw [hbL] at hns
 (refine Wy hns ?_;intro K1 hK1)
 rintro _ _ ⟨rfl,D,Q,B,_,hD,hB,hQ,rfl⟩
 simp only [Y9]
 (refine Wz ?_;clear hK1 K1)
 (refine Wt ?_;(repeat clear hK K);repeat refine kq fun K hK=>?_)
 (refine Ai rfl ?_;intro K1 hK1;refine AH (ids:=[]) [2] (T6 R D Q B hv hn hr hD hQ hB) rfl rfl (by simp only [go_sem]) (by first | assumption | kernel_rfl) rfl rfl (by (simp only [List.map_append,List.append_nil,go_sem]) <;> rfl) (by (simp only [VS,Y9,go_sem]) <;> rfl) ?_ ?_)
 ·rintro _ _ ⟨c,_,_,rfl,rfl⟩;rfl
 rintro _ _ ⟨c,hc,hN,rfl,rfl⟩
 simp only [Y9]
 (refine Wz ?_;clear hK1 K1)
 (refine Wt ?_;(repeat clear hK K);repeat refine kq fun K hK=>?_)
 ((try refine Av ?_);(try simp only [Ae,AF]);refine B6 (A9 [] rfl rfl) ?_;(try simp only [List.set_nil,List.take_nil,List.take_zero,List.map_append,go_sem]);((try refine Av ?_);(try refine Aa ?_);(try simp only [Ae,AF]);refine Bj (by first | exact .inl rfl | exact .inr rfl) rfl ?_;simp only [VU,Dy,Du,DL,Tryz.results20,go_sem,true_and,and_true,As]))
 exact ⟨c,hc,hN,rfl⟩
noncomputable def EqW (A R:List (List Ar)):Bool:=@decide (Bv A=true/\Bv R=true/\∃ c,WkC (Eo A R) c/\c.getD 0 0=c.getD A.length 0) (Classical.propDecidable _)
theorem EqW.of {A R:List (List Ar)} (hA:Bv A=true) (hv:Bv R=true) {c:List Int} (hc:WkC (Eo A R) c):decide (c.getD 0 0=c.getD A.length 0)=EqW A R:=by
 by_cases h:c.getD 0 0=c.getD A.length 0
 ·rw [gEg h]
  exact (@decide_eq_true _ (Classical.propDecidable _) ⟨hA,hv,c,hc,h⟩).symm
 rw [decide_eq_false h]
 refine (@decide_eq_false _ (Classical.propDecidable _) ?_).symm
 rintro ⟨_,_,d,hd,q⟩
 obtain rfl:=hc.uniq hd
 exact h q
set_option maxHeartbeats 4000000 in
theorem Zs (A R:List (List Ar)) (hA:Bv A=true) (hv:Bv R=true) (hn:A.length+R.length<=64) (ht:Bw A+Bw R<=1000) (hrA:∀ r∈A,r.length<=1000000) (hr:∀ r∈R,r.length<=1000000):FC Tryz.prog 16 [B7 A,B7 R] [] (fun r o=>o=[]/\r=.b (EqW A R)):=by
 refine A6 Tryz.func16 rfl (by rw [Tryz.ntmps16];simp) ?_
 rw [Tryz.ntmps16]
 simp only [Bf,B7]
 have hlA:BE A=true:=gEg (gE4 hA).1
 have hz:=YA hA hv (by omega) ht
 have hzn:(Eo A R).length<=64:=by rw [CF];exact hn
 have hzr:=Zm hrA hr
 have hA1:1<=A.length:=(gE4 hlA).1
 have hR1:1<=R.length:=(gE4 (gEg (gE4 hv).1:BE R=true)).1
 have hbL:L6 [A,R]=Eo A R:=by show Eo (Eo [] A) R=_;rw [Q4]
 (refine Wt ?_;(repeat clear hK K);repeat refine kq fun K hK=>?_)
 (refine Wy (CD A (by omega) (fun r h=>by have:=hrA r h;omega)) ?_;intro K1 hK1)
 rintro _ _ ⟨rfl,rfl⟩
 (refine Wz ?_;clear hK1 K1)
 rw [hA]
 (refine Wu @Bool.not_true ?_;(repeat clear hK K);repeat refine kq fun K hK=>?_)
 (refine BV rfl rfl (by simp only [go_sem] <;> rfl) ?_;intro K1 hK1;refine (Bb (ids:=[]) (CD R (by omega) (fun r h=>by have:=hr r h;omega)) rfl rfl (by simp only [go_sem]) (by kernel_rfl) (by (simp only [List.append_nil,go_sem]) <;> rfl) ?_).stp)
 rintro _ _ ⟨rfl,rfl⟩
 (refine Wz ?_;clear hK1 K1)
 rw [hv]
 (refine Wu @Bool.not_true ?_;(repeat clear hK K);repeat refine kq fun K hK=>?_)
 refine WC ?_
 (refine Wt ?_;(repeat clear hK K);repeat refine kq fun K hK=>?_)
 have hf:(if 2<=(Ya [A,R]).length then C.t 1 ((Ya [A,R]).take 2) else C.u)=C.t 1 (Ya [A,R]):=rfl
 (refine BS (Bg (r:=⟨25,1,true,[.t 1 (Ah A),.t 1 (Ah R)]⟩) 2 (Ya [A,R]) rfl ⟨.inl rfl,.inl rfl,trivial⟩ (show 0<(1:Nat) by omega)) ?_;simp only [ST.frz,A0.frz,AV.frz,C.frz,Nat.le_refl,List.set_cons_zero,List.set_cons_succ,go_sem,hf])
 have hns:=SI [A,R] (by simp) (by simp) (by simp [hA,hv]) (by simp only [List.mem_cons,List.not_mem_nil,or_false,forall_eq_or_imp,forall_eq];exact ⟨hrA,hr⟩) (by show A.length+(R.length+0)<=16384;omega) (by show Bw A+(Bw R+0)<=262144;omega)
 rw [hbL] at hns
 (refine Wy hns ?_;intro K1 hK1)
 rintro _ _ ⟨rfl,D,Q,B,_,hD,hB,hQ,rfl⟩
 simp only [Y9]
 (refine Wz ?_;clear hK1 K1)
 (refine Wt ?_;(repeat clear hK K);repeat refine kq fun K hK=>?_)
 (refine Ai rfl ?_;intro K1 hK1;refine AH (ids:=[]) [3] (T6 (Eo A R) D Q B hz hzn hzr hD hQ hB) rfl rfl (by simp only [go_sem]) (by first | assumption | kernel_rfl) rfl rfl (by (simp only [List.map_append,List.append_nil,go_sem]) <;> rfl) (by (simp only [VS,Y9,go_sem]) <;> rfl) ?_ ?_)
 ·rintro _ _ ⟨c,_,_,rfl,rfl⟩;rfl
 rintro _ _ ⟨c,hc,hN,rfl,rfl⟩
 have hcl:c.length=A.length+R.length:=by rw [hN.len,CF]
 simp only [Y9]
 (refine Wz ?_;clear hK1 K1)
 (refine Wt ?_;(repeat clear hK K);repeat refine kq fun K hK=>?_)
 (refine Ac 10 [(0,0),(1,0),(2,1),(3,0),(4,0),(5,1),(6,0),(7,0),(8,1),(9,0),(10,2)] (by kernel_rfl) (by kernel_rfl) (by intro c st h;simp [Ae,AF,VT] at h) ?_)
 (refine Wq (an @Int.toNat_zero (an @A3 (an @A4 (an (YG (c:=c) (i:=0) (by omega)) (YG (c:=c) (i:=A.length) (by omega)))))) ?_;repeat clear hK K)
 have he:(c.getD 0 0 == c.getD A.length 0)=EqW A R:=EqW.of hA hv hc
 simp only [he]
 exact Lq [] Tryz.results16
theorem YZ (S:List (List Ar)) (c:List Int):∀ k,Xl S (Xk S c) k=Xl S c (k+1)
 | 0=>rfl
 | k+1=>by rw [Xl,YZ S c k];rfl
theorem Zt (S:List (List Ar)):∀ (m:Nat) (c:List Int),Nrm S.length c->S.length<=F9 S.length c+m->∃ k,Xk S (Xl S c k)=Xl S c k:=by
 intro m
 induction m with
 | zero=>
  intro c hN hm
  refine ⟨0,?_⟩
  by_cases e:Xk S c=c
  ·exact e
  have h1:=U4 hN e
  have h2:=KK S.length (Xk S c)
  omega
 | succ m ih=>
  intro c hN hm
  by_cases e:Xk S c=c
  ·exact ⟨0,e⟩
  have h1:=U4 hN e
  obtain ⟨k,hk⟩:=ih (Xk S c) (NB S c) (by omega)
  rw [YZ] at hk
  exact ⟨k+1,hk⟩
theorem WkC.ex {R:List (List Ar)} (hv:Bv R=true) (hn:R.length<=100):∃ c,WkC R c:=by
 have hl:=(Ht hv hn).1
 have h1:1<=R.length:=(gE4 hv).1.1
 obtain ⟨B,hB⟩:∃ B,DvL R B:=by
  refine ⟨(List.range R.length).map fun s=>@decide (Dv R s) (Classical.propDecidable _),by simp,fun s hs=>?_⟩
  rw [gE2,List.getElem?_map,List.getElem?_range hs]
  exact @decide_eq_true_iff _ (Classical.propDecidable _)
 obtain ⟨k,hk⟩:=Zt (C9 R) R.length (Xv B R.length) (by rw [hl];exact NC _ h1) (by omega)
 exact ⟨_,B,hB,k,rfl,hk⟩
theorem EqW.yes {A R:List (List Ar)} (hA:Bv A=true) (hv:Bv R=true) (hn:A.length+R.length<=100) (ht:Bw A+Bw R<=1000) (h:∀ d,WkC (Eo A R) d->d.getD 0 0=d.getD A.length 0):EqW A R=true:=by
 obtain ⟨d,hd⟩:=WkC.ex (YA hA hv hn ht) (by rw [CF];exact hn)
 exact @decide_eq_true _ (Classical.propDecidable _) ⟨hA,hv,d,hd,h d hd⟩
def AnW {α:Type} (A:List (List Ar)) (kA:Nat->α) (B:List (List Ar)) (kB:Nat->α) (s t:Nat):Prop:=
 (Dv A s->Dv B t)/\∀ e u,WA A s e u->∃ v,WA B t e v/\kB v=kA u
section
variable {α : Type} {A B C : List (List Ar)} {kA kB kC : Nat -> α} {s t r : Nat}
theorem AnW.trans (h1 : AnW A kA B kB s t) (h2 : AnW B kB C kC t r) : AnW A kA C kC s r :=
 ⟨fun d => h2.1 (h1.1 d), fun e u w => by
  obtain ⟨v, w2, e2⟩ := h1.2 e u w
  obtain ⟨x, w3, e3⟩ := h2.2 e v w2
  exact ⟨x, w3, e3.trans e2⟩⟩
theorem MtW.of (hA:Bv A=true) (hB:Bv B=true) (h:∀ s t,s<A.length->t<B.length->kA s=kB t->AnW A kA B kB s t):MtW A kA B kB:=by
 intro s t hs ht e
 obtain ⟨h1,h2⟩:=h s t hs ht e
 refine ⟨h1,fun a ha=>?_⟩
 obtain ⟨u,hu,hw,e1⟩:=(EK hA hs).1 ha
 obtain ⟨v,hv,e2⟩:=h2 _ _ hw
 exact ⟨(a.1,(v:Int)),(EK hB ht).2 ⟨v,hv.lt hB ht,hv,rfl⟩,rfl,by rw [e1];simpa using e2⟩
end
/-! A canonical form. -/
structure CnX (Y X:List (List Ar)) (o:Nat->Nat):Prop where
 z:0<X.length
 o0:o 0=0
 bd:∀ j,j<X.length->o j<Y.length
 inj:∀ i j,i<X.length->j<X.length->o i=o j->i=j
 up:∀ j (a:Ar),j<X.length->a∈Y.getD (o j) []->∃ i:Nat,i<X.length/\(a.1,(i:Int))∈X.getD j []/\o i=a.2.toNat
 dn:∀ j (a:Ar),j<X.length->a∈X.getD j []->∃ i:Nat,i<X.length/\a.2=(i:Int)/\(a.1,(o i:Int))∈Y.getD (o j) []
theorem Zz {Y:List (List Ar)} (hY:BE Y=true):CnX Y (BT Y).1 (YO Y):=by
 obtain ⟨h1,_,_,h4⟩:=gE4 hY
 obtain ⟨c1,c2,c3,c4,c5,c6⟩:=Zl h1 fun r hr a ha=>by have:=h4 r hr a ha;exact ⟨this.2.2.1,this.2.2.2⟩
 exact ⟨c1,c2,c3,c4,c5,c6⟩
section
variable {X Y : List (List Ar)} {o : Nat -> Nat}
end
/-! What stands for all states that a canonical form keeps. -/
def MtS {α:Type} (A:List (List Ar)) (kA:Nat->α) (B:List (List Ar)) (kB:Nat->α):Prop:=
 ∀ s t,s<A.length->t<B.length->kA s=kB t->∀ a∈A.getD s [],∃ b∈B.getD t [],b.1=a.1/\kB b.2.toNat=kA a.2.toNat
section
variable {α : Type} {A B C : List (List Ar)} {kA kB kC : Nat -> α} {s t r : Nat}
theorem MtS.rc (h:MtS A kA B kB) (hA:Bv A=true) (hB:Bv B=true) (hs:s<A.length) (ht:t<B.length) (e:kA s=kB t) {u:Nat} (hr:Rc (WP true A) s u):u<A.length/\∃ v,v<B.length/\kA u=kB v/\Rc (WP true B) t v:=by
 induction hr with
 | refl=>exact ⟨hs,t,ht,e,.refl _⟩
 | tail _ hw ih=>
  obtain ⟨i1,v,i2,i3,i4⟩:=ih
  have ha:=(Gs hA).1 hw
  obtain ⟨b,hb,e1,e2⟩:=h _ _ i1 i2 i3 _ ha
  have hbl:=EJ hB i2 hb
  have hal:=EJ hA i1 ha
  simp only [Int.toNat_natCast] at e1 e2 hal
  refine ⟨hal.2.2.2,b.2.toNat,hbl.2.2.2,e2.symm,i4.tail ((Gs hB).2 ?_)⟩
  obtain ⟨x,y⟩:=b
  simp only at e1 hbl ⊢
  subst e1
  rw [Int.toNat_of_nonneg hbl.2.2.1]
  exact hb
theorem MtS.toW (h:MtS A kA B kB) (hA:Bv A=true) (hB:Bv B=true):MtW A kA B kB:=by
 refine MtW.of hA hB fun s t hs ht e=>⟨fun ⟨g,hg,w,hw,hwg⟩=>?_,fun x u hw=>?_⟩
 rotate_left
 ·rcases hw with ⟨h0,hr⟩ | ⟨h0,p,hp,a,ha,h1,h2⟩
  ·obtain ⟨_,v,_,v2,v3⟩:=h.rc hA hB hs ht e hr
   exact ⟨v,.inl ⟨h0,v3⟩,v2.symm⟩
  obtain ⟨pl,q,ql,eq,hq⟩:=h.rc hA hB hs ht e hp
  obtain ⟨b,hb,e1,e2⟩:=h _ _ pl ql eq _ ha
  obtain ⟨_,v,_,v2,v3⟩:=h.rc hA hB (EJ hA pl ha).2.2.2 (EJ hB ql hb).2.2.2 e2.symm h2
  exact ⟨v,.inr ⟨h0,q,hq,b,hb,e1.trans h1,v3⟩,v2.symm⟩
 obtain ⟨gl,g2,g2l,eg,hg2⟩:=h.rc hA hB hs ht e hg
 have hd:Dv B g2:=by
  refine bf hB (P:=fun y=>kA g=kB y) (fun y hy ey=>?_) _ g2 g2l eg (Nat.le_refl _)
  have ha:=(Gs hA).1 hw
  obtain ⟨b,hb,e1,e2⟩:=h _ _ gl hy ey _ ha
  have hbl:=EJ hB hy hb
  have hal:=EJ hA gl ha
  simp only [Int.toNat_natCast] at e1 e2 hal
  obtain ⟨_,v,v1,v2,v3⟩:=h.rc hA hB hal.2.2.2 hbl.2.2.2 e2.symm hwg
  refine ⟨b.2.toNat,v,(Gs hB).2 ?_,v3,v1,v2⟩
  obtain ⟨x,z⟩:=b
  simp only at e1 hbl ⊢
  subst e1
  rw [Int.toNat_of_nonneg hbl.2.2.1]
  exact hb
 obtain ⟨g3,q1,q2⟩:=hd
 exact ⟨g3,hg2.trans q1,q2⟩
theorem MtK.toW (h:MtK A kA B kB) (hA:Bv A=true) (hB:Bv B=true):MtW A kA B kB:=by
 have hEA:=Cw true (gEg (gE4 hA).1:BE A=true)
 have hEB:=Cw true (gEg (gE4 hB).1:BE B=true)
 have htau:∀ {s t u},s<A.length->t<B.length->kA s=kB t->Rc (WP true A) s u->∃ v,Rc (WP true B) t v/\kB v=kA u:=fun hs ht e hr=>by
  obtain ⟨b,hb,e1,e2⟩:=(h _ _ hs ht e).2 (0,(_:Int)) ((Hp hA hs).2 (.inl ⟨rfl,_,rfl,hr⟩))
  rcases (Hp hB ht).1 hb with ⟨_,v,hv,hr2⟩ | ⟨h0,_⟩
  ·exact ⟨v,hr2,by rw [hv] at e2;simpa using e2⟩
  exact absurd e1 h0
 refine MtW.of hA hB fun s t hs ht e=>⟨(h s t hs ht e).1,fun x u hw=>?_⟩
 rcases hw with ⟨h0,hr⟩ | ⟨h0,p,hp,a,ha,h1,h2⟩
 ·obtain ⟨v,v1,v2⟩:=htau hs ht e hr
  exact ⟨v,.inl ⟨h0,v1⟩,v2⟩
 obtain ⟨b,hb,e1,e2⟩:=(h _ _ hs ht e).2 a ((Hp hA hs).2 (.inr ⟨by rw [h1];exact h0,p,hp,ha⟩))
 have hal:=EJ hA (hp.lt hs hEA) ha
 rcases (Hp hB ht).1 hb with ⟨h9,_⟩ | ⟨_,q,hq,hb2⟩
 ·exact absurd (h1 ▸ e1 ▸ h9) h0
 have hbl:=EJ hB (hq.lt ht hEB) hb2
 obtain ⟨v,v1,v2⟩:=htau hal.2.2.2 hbl.2.2.2 e2.symm h2
 exact ⟨v,.inr ⟨h0,q,hq,b,hb2,e1.trans h1,v1⟩,v2⟩
end
theorem Zv {α:Type} {A R:List (List Ar)} {kA kR:Nat->α} (hA:Bv A=true) (hR:Bv R=true) (hn:A.length+R.length<=100) (ht:Bw A+Bw R<=1000) (h1:MtW A kA A kA) (h2:MtW A kA R kR) (h3:MtW R kR A kA) (h4:MtW R kR R kR) (h0:kA 0=kR 0):EqW A R=true:=by
 have hA1:1<=A.length:=(gE4 hA).1.1
 have hR1:1<=R.length:=(gE4 hR).1.1
 refine EqW.yes hA hR hn ht fun d hd=>?_
 have hz:=YA hA hR hn ht
 have hb:=MtW.both hA hR hn hz h1 h2 h3 h4
 refine hb.le hz (by rw [CF];exact hn) hd (by rw [CF];omega) (by rw [CF];omega) ?_
 unfold ZF
 rw [if_pos (show 0<A.length by omega),if_neg (by omega),Nat.sub_self,h0]
def cb (f:Nat->Nat) (a:Ar):Ar:=(a.1,(f a.2.toNat:Int))
def ZJ (f:Nat->Nat) (c:Nat) (o:List (List Ar)) (row:List Ar):List (List Ar):=row.foldl (fun o a=>R1 (some (cb f a)) c o) o
def To (f:Nat->Nat) (m:Nat) (R:List (List Ar)):Nat->List (List Ar)
 | 0=>List.replicate m []
 | k+1=>ZJ f (f k) (To f m R k) (R.getD k [])
def qS (R:List (List Ar)) (C:List Int):List (List Ar):=To (bY C) (bZ C) R R.length
theorem ZX (f:Nat->Nat) (c:Nat) (row:List Ar):∀ o,(ZJ f c o row).length=o.length:=by
 induction row with
 | nil=>intro o;rfl
 | cons a r ih=>intro o;show (ZJ f c (R1 (some (cb f a)) c o) r).length=_;rw [ih,ZH]
theorem ZR (f:Nat->Nat) (m:Nat) (R:List (List Ar)) (k:Nat):(To f m R k).length=m:=by
 induction k with
 | zero=>simp [To]
 | succ k ih=>rw [To,ZX,ih]
theorem am (f:Nat->Nat) (c:Nat) (o:List (List Ar)) (row:List Ar) (a:Ar):ZJ f c o (row++[a])=R1 (some (cb f a)) c (ZJ f c o row):=by unfold ZJ;rw [List.foldl_append];rfl
theorem aC {f:Nat->Nat} {c d:Nat} {x:Ar}:∀ (row:List Ar) (o:List (List Ar)),c<o.length->(x∈(ZJ f c o row).getD d []↔x∈o.getD d []\/(d=c/\∃ b∈row,x=cb f b)):=by
 intro row
 induction row with
 | nil=>intro o _;simp [ZJ]
 | cons b r ih=>
  intro o h
  show x∈(ZJ f c (R1 (some (cb f b)) c o) r).getD d []↔_
  rw [ih _ (by rw [ZH];exact h),ZN h]
  simp only [List.mem_cons,exists_eq_or_imp,Option.some.injEq]
  rw [or_assoc,<- and_or_left,eq_comm (a:=cb f b)]
theorem aD {f:Nat->Nat} {m d:Nat} {R:List (List Ar)} {x:Ar} {n:Nat} (hf:∀ v,v<n->f v<m):∀ k,k<=n->(x∈(To f m R k).getD d []↔∃ s,s<k/\f s=d/\∃ b∈R.getD s [],x=cb f b):=by
 intro k
 induction k with
 | zero=>intro _;rw [To,ai];simp
 | succ k ih=>
  intro hk
  rw [To,aC _ _ (by rw [ZR];exact hf k hk),ih (by omega)]
  constructor
  ·rintro (⟨s,h1,h2,h3⟩ | ⟨rfl,h3⟩)
   ·exact ⟨s,by omega,h2,h3⟩
   exact ⟨k,by omega,rfl,h3⟩
  rintro ⟨s,h1,h2,h3⟩
  by_cases e:s=k
  ·subst e;exact .inr ⟨h2.symm,h3⟩
  exact .inl ⟨s,by omega,h2,h3⟩
theorem ZY (f:Nat->Nat) (c:Nat) (row:List Ar):∀ o,Bw (ZJ f c o row)<=Bw o+row.length:=by
 induction row with
 | nil=>intro o;exact Nat.le_refl _
 | cons a r ih=>
  intro o
  have h1:=ih (R1 (some (cb f a)) c o)
  have h2:=ZO (some (cb f a)) c o
  show Bw (ZJ f c (R1 (some (cb f a)) c o) r)<=_
  simp only [List.length_cons];omega
theorem ZZ (f:Nat->Nat) (m:Nat) (R:List (List Ar)):∀ k,k<=R.length->Bw (To f m R k)<=Bw (R.take k):=by
 intro k
 induction k with
 | zero=>intro _;rw [To,ac];omega
 | succ k ih=>
  intro hk
  have h1:=ih (by omega)
  have h2:=Cj (R:=R) (k:=k) hk
  have h3:=ZY f (f k) (R.getD k []) (To f m R k)
  have h4:R.getD k []=R[k]:=by rw [gE2,gE1 hk];rfl
  rw [To]
  rw [h4] at h3 ⊢
  omega
theorem aU {R:List (List Ar)} {C:List Int} (h:Zy C R.length=true) {d:Nat} {x:Ar}:x∈(qS R C).getD d []↔∃ s,s<R.length/\bY C s=d/\∃ b∈R.getD s [],x=cb (bY C) b:=aD (fun v hv=>((Y2 h).2.2.1 v hv).1) _ (Nat.le_refl _)
theorem bg {R:List (List Ar)} {C:List Int} (hlo:BE R=true) (h:Zy C R.length=true):(qS R C).length=bZ C/\(∀ r∈qS R C,∀ a∈r,0<=a.1/\a.1<=1025/\0<=a.2/\a.2<((qS R C).length:Int))/\Bw (qS R C)<=Bw R:=by
 obtain ⟨h1,h2,h3,_⟩:=Y2 h
 have hl:(qS R C).length=bZ C:=ZR _ _ _ _
 refine ⟨hl,fun r hr a ha=>?_,?_⟩
 rotate_left
 ·have:=ZZ (bY C) (bZ C) R R.length (Nat.le_refl _)
  rw [List.take_length] at this
  exact this
 obtain ⟨d,hd,rfl⟩:=List.getElem_of_mem hr
 have ha2:a∈(qS R C).getD d []:=by rw [gE2,gE1 hd];exact ha
 obtain ⟨s,hs,_,b,hb,rfl⟩:=(aU h).1 ha2
 rw [gE2,gE1 hs] at hb
 have hbd:=(gE4 hlo).2.2.2 _ (gE6 hs) b hb
 have:=(h3 b.2.toNat (by omega)).1
 rw [hl]
 unfold cb
 simp only
 omega
theorem aV {R:List (List Ar)} {C:List Int} (hlo:BE R=true) (h:Zy C R.length=true):BE (qS R C)=true:=by
 obtain ⟨b1,b2,b3⟩:=bg hlo h
 obtain ⟨q1,q2,q3,_⟩:=gE4 hlo
 have hno:=Y2 h
 have hm1:1<=bZ C:=by have:=(hno.2.2.1 0 q1).1;omega
 exact gEg ⟨by omega,by omega,by omega,b2⟩
theorem aE {R:List (List Ar)} {c:List Int} (hf:Xk R c=c):MtS R (fun s=>c.getD s 0) R (fun s=>c.getD s 0):=by
 intro s t hs ht h a ha
 have e:=(Cx (Xj R c) R.length).eq s t hs ht
 have e0:(Xh (Xj R c) R.length).1=c:=hf
 rw [e0] at e
 have e2:=congrArg Prod.snd (e.1 h)
 obtain ⟨c1,-⟩:=Se.1 e2
 obtain ⟨b,hb,hq⟩:=List.any_eq_true.1 (List.all_eq_true.1 c1 a ha)
 simp only [Bool.and_eq_true,beq_iff_eq] at hq
 exact ⟨b,hb,hq.1,hq.2⟩
theorem bE {R:List (List Ar)} {c:List Int} (hv:Bv R=true) (hn:R.length<=50) (ht:Bw R<=500) (hk0:MtS R (fun s=>c.getD s 0) R (fun s=>c.getD s 0)) (hC:Zy c R.length=true):∃ X,X=(BT (qS R c)).1/\Bv X=true/\X.length<=R.length/\Bw X<=Bw R/\EqW R X=true:=by
 have hlo:BE R=true:=gEg (gE4 hv).1
 obtain ⟨b1,b2,b3⟩:=bg hlo hC
 have hn1:1<=R.length:=(gE4 hlo).1
 have hno:=Y2 hC
 have hlq:=aV hlo hC
 have hX:=B0 hlq
 have htX:=B2 hlq
 have cX:=Zz hlq
 have hlX:=(OD (R:=qS R c) (B:=Bw (qS R c)) (gE4 hlq).1 (fun r hr a ha=>by have:=b2 r hr a ha;exact ⟨this.2.2.1,this.2.2.2⟩) (fun r hr=>Q6 r hr)).1
 have hf0:=aO hC hn1
 have hmq:=fun {d x}=>aU (x:=x) (d:=d) hC
 generalize YO (qS R c)=kX at *
 generalize (BT (qS R c)).1=X at *
 have hcl:∀ s,s<R.length->c.getD s 0=(bY c s:Int):=fun s hs=>by rw [gE2,(hno.2.2.1 s hs).2];rfl
 have hk:MtS R (bY c) R (bY c):=fun s t hs ht e a ha=>by
  obtain ⟨b,hb,e1,e2⟩:=hk0 s t hs ht (by simp only;rw [hcl s hs,hcl t ht,e]) a ha
  refine ⟨b,hb,e1,?_⟩
  have e3:c.getD b.2.toNat 0=c.getD a.2.toNat 0:=e2
  unfold bY
  rw [e3]
 have m2:MtS R (bY c) X kX:=fun s j hs hj e a ha=>by
  obtain ⟨i,_,h2,h3⟩:=cX.up j (cb (bY c) a) hj (hmq.2 ⟨s,hs,e,a,ha,rfl⟩)
  exact ⟨_,h2,rfl,by simp only [Int.toNat_natCast];rw [h3];simp [cb]⟩
 have m3:MtS X kX R (bY c):=fun j s hj hs e a ha=>by
  obtain ⟨i,_,h2,h3⟩:=cX.dn j a hj ha
  obtain ⟨s',hs',e',b,hb,eb⟩:=hmq.1 h3
  obtain ⟨d,hd,d1,d2⟩:=hk s' s hs' hs (by rw [e',e]) b hb
  have q1:=congrArg Prod.fst eb
  have q2:=congrArg Prod.snd eb
  unfold cb at q1 q2
  simp only at q1 q2
  exact ⟨d,hd,by rw [d1,q1],by rw [d2,h2];simp only [Int.toNat_natCast];exact (Int.ofNat.inj q2).symm⟩
 have m4:MtS X kX X kX:=fun i j hi hj e a ha=>by
  obtain rfl:=cX.inj i j hi hj e
  exact ⟨a,ha,rfl,rfl⟩
 exact ⟨X,rfl,hX,by omega,by omega,Zv hv hX (by omega) (by omega) (hk.toW hv hv) (m2.toW hv hX) (m3.toW hX hv) (m4.toW hX hX) (by rw [cX.o0,hf0])⟩
theorem aF {C:List Int} {k:Nat} (h:k<C.length) {m:Int}:Zk (C.drop k) m=((!decide (C[k]<0) && !decide (C[k] > m)) && Zk (C.drop (k+1)) (ZB m C[k])):=by
 rw [List.drop_eq_getElem_cons h,Zk]
theorem aG {C:List Int} {k:Nat} (h:k<C.length):ZC 0 (C.take (k+1))=ZB (ZC 0 (C.take k)) C[k]:=by
 rw [gE8 h,YL]
theorem bF (C:List Int) (n:Nat) (hC:C.length<=9223372036854775807):FC Tryz.prog 113 [As C,.i n] [] (fun r o=>o=[]/\r=.b (Zy C n)):=by
 refine A6 Tryz.func113 rfl (by rw [Tryz.ntmps113];simp) ?_
 rw [Tryz.ntmps113]
 simp only [Bf,As]
 (refine Wu @A4 ?_;(repeat clear hK K);repeat refine kq fun K hK=>?_)
 refine A8 (fun k:Nat=>{ tm:=[(0,.a (.c (.t 1 (Ab C)))),(1,.i n),(5,.i (ZC 0 (C.take k))),(8,.a (.c (.t 1 (Ab C)))),(9,.i C.length),(10,.i k)],hp:=[],n:=30,pin:=0 }) (fun k=>k<=C.length/\Zk C 0=Zk (C.drop k) (ZC 0 (C.take k))/\0<=ZC 0 (C.take k)/\ZC 0 (C.take k)<=k) (fun k=>C.length - k) 0 ?_ ?_ ?_
 ·exact ⟨by omega,by simp [ZC],by simp [ZC],by simp [ZC]⟩
 ·have e:ZC 0 (C.take 0)=0:=by simp [ZC]
  rw [e]
  exact WE
 rintro k ⟨hk,hg,hm0,hmk⟩ K hK
 by_cases hlt:k<C.length
 rotate_left
 ·have d1:decide ((k:Int)<(C.length:Int))=false:=by simpa using hlt
  have hd:Zk C 0=true:=by rw [hg,List.drop_of_length_le (by omega)];rfl
  (refine Wu @d1 ?_;(repeat clear hK K);repeat refine kq fun K hK=>?_)
  refine WC ?_
  (refine Wx ?_;repeat clear hK K)
  (refine Wu @A4 ?_;(repeat clear hK K);repeat refine kq fun K hK=>?_)
  refine WH Tryz.results113 ?_
  have e:((C.length:Int) == (n:Int))=decide (C.length=n):=by rw [Bool.eq_iff_iff,beq_iff_eq,decide_eq_true_iff];omega
  rw [Zy,hd,Bool.true_and,e]
 have d1:decide ((k:Int)<(C.length:Int))=true:=by simpa using hlt
 have gc:=Am (gE1 hlt)
 have hs:=aF hlt (m:=ZC 0 (C.take k))
 have hx:=aG hlt
 generalize C[k]=c at *
 generalize ZC 0 (C.take k)=m at *
 rw [hs] at hg
 by_cases h1:c<0
 ·have d2:decide (c<0)=true:=by simpa using h1
  (refine Wu @d1 ?_;(repeat clear hK K);repeat refine kq fun K hK=>?_)
  refine WB ?_
  (refine Wu (an @A4 (an @gc @d2)) ?_;(repeat clear hK K);repeat refine kq fun K hK=>?_)
  refine WB ?_
  (refine Wt ?_;(repeat clear hK K);repeat refine kq fun K hK=>?_)
  refine WH Tryz.results113 ?_
  simp [Zy,hg,h1]
 have d2:decide (c<0)=false:=by simpa using h1
 by_cases h2:c > m
 ·have d3:decide (c > m)=true:=by simpa using h2
  (refine Wu @d1 ?_;(repeat clear hK K);repeat refine kq fun K hK=>?_)
  refine WB ?_
  (refine Wu (an @A4 (an @gc (an @d2 @d3))) ?_;(repeat clear hK K);repeat refine kq fun K hK=>?_)
  refine WB ?_
  (refine Wt ?_;(repeat clear hK K);repeat refine kq fun K hK=>?_)
  refine WH Tryz.results113 ?_
  simp [Zy,hg,h2]
 have d3:decide (c > m)=false:=by simpa using h2
 (refine Wu @d1 ?_;(repeat clear hK K);repeat refine kq fun K hK=>?_)
 refine WB ?_
 (refine Wu (an @A4 (an @gc (an @d2 @d3))) ?_;(repeat clear hK K);repeat refine kq fun K hK=>?_)
 refine WC ?_
 (refine Wt ?_;(repeat clear hK K);repeat refine kq fun K hK=>?_)
 refine WD ?_
 have h3:0<=ZB m c/\ZB m c<=m+1:=by unfold ZB;split <;> omega
 refine hK _ (k+1) ⟨by omega,by rw [hg,hx,d2,d3];simp,by rw [hx];omega,by rw [hx];omega⟩ (by omega) ?_
 have e:(if c+1 > m then c+1 else m)=ZC 0 (C.take (k+1)):=by rw [hx];rfl
 rw [<- e]
 exact WE
theorem aW (C:List Int) (h1:0<C.length) (hC:C.length<=140737488355328):FC Tryz.prog 82 [As C] [] (fun r o=>o=[]/\r=.i (ZU C[0] C)):=by
 refine A6 Tryz.func82 rfl (by rw [Tryz.ntmps82];simp) ?_
 rw [Tryz.ntmps82]
 simp only [Bf,As]
 have d0:decide ((C.length:Int)<1)=false:=by simp;omega
 have g0:(Ab C)[0]?=some (.v (.int .i64 C[0])):=Am (gE1 h1)
 (refine Wu (an @A4 @d0) ?_;(repeat clear hK K);repeat refine kq fun K hK=>?_)
 refine WC ?_
 (refine Wu (an @A4 (an @g0 @Int.toNat_zero)) ?_;(repeat clear hK K);repeat refine kq fun K hK=>?_)
 refine A8 (fun k:Nat=>{ tm:=[(0,.a (.c (.t 1 (Ab C)))),(3,.i (ZU C[0] (C.take k))),(4,.i k)],hp:=[],n:=25,pin:=0 }) (fun k=>1<=k/\k<=C.length) (fun k=>C.length - k) 1 ?_ ?_ ?_
 ·omega
 ·have e:C.take 1=[C[0]]:=by rw [gE8 h1];rfl
  have e2:ZU C[0] [C[0]]=C[0]:=by simp [ZU]
  (refine BG ?_;simp only [Dg,go_sem,e,e2];try simp)
 rintro k ⟨hk1,hk⟩ K hK
 by_cases hlt:k<C.length
 rotate_left
 ·have d1:decide ((k:Int)<(C.length:Int))=false:=by simpa using hlt
  have he:C.take k=C:=gE7 (by omega)
  rw [he]
  (refine Wu (an @A4 @d1) ?_;(repeat clear hK K);repeat refine kq fun K hK=>?_)
  refine WC ?_
  (refine Wx ?_;repeat clear hK K)
  (refine Wt ?_;(repeat clear hK K);repeat refine kq fun K hK=>?_)
  exact M6 Tryz.results82
 have d1:decide ((k:Int)<(C.length:Int))=true:=by simpa using hlt
 have g1:=Am (gE1 hlt)
 (refine Wu (an @A4 @d1) ?_;(repeat clear hK K);repeat refine kq fun K hK=>?_)
 refine WB ?_
 (refine Wu (an @A4 @g1) ?_;(repeat clear hK K);repeat refine kq fun K hK=>?_)
 refine WD ?_
 refine hK _ (k+1) ⟨by omega,by omega⟩ (by omega) ?_
 have e:=gE8 hlt
 (refine BG ?_;simp only [Dg,go_sem,e,ay];try simp)
theorem aH (R:List (List Ar)):∀ (f i:Nat) (num old:List Int) (out:List (List Ar)),∃ l,(F2 R f i num old out).1=out++l:=by
 intro f
 induction f with
 | zero=>intro i num old out;exact ⟨[],by simp [F2]⟩
 | succ f ih=>
  intro i num old out
  unfold F2
  split
  ·exact ⟨[],by simp⟩
  obtain ⟨l,hl⟩:=ih (i+1) (Cr (Cq (R.getD (Int.toNat ‹_›) [])) num old []).1 (Cr (Cq (R.getD (Int.toNat ‹_›) [])) num old []).2.1 (out++[(Cr (Cq (R.getD (Int.toNat ‹_›) [])) num old []).2.2])
  exact ⟨_ :: l,by rw [hl,List.append_assoc];rfl⟩
theorem aj (x y:List (List Ar)):Bw (x++y)=Bw x+Bw y:=by simp [Bw]
theorem aP (r:List Ar):Bw [r]=r.length:=by simp [Bw]
def cc (q:List (List Ar)) (r:AV) (o:List Ob):Prop:=
 if Bw q<=262144 then o=[.r ⟨25,1,false,[.t 1 (Ah q)]⟩]/\r=.tup [.g [.t 1 (Ah q)],.c (.v (.bool true))]
 else o=[.r ⟨25,1,false,[.v (.slice none 0 0)]⟩]/\r=.tup [.g [.v (.slice none 0 0)],.c (.v (.bool false))]
set_option maxHeartbeats 8000000 in
theorem aI (R:List (List Ar)) (h1:1<=R.length) (hbd:∀ r∈R,∀ a∈r,0<=a.2/\a.2<(R.length:Int)) (hn:R.length<=1000000) (hr:∀ r∈R,r.length<=1000000):FC Tryz.prog 114 [.a (.c (.t 1 (Ah R)))] [] (cc (BT R).1):=by
 refine A6 Tryz.func114 rfl (by rw [Tryz.ntmps114];simp) ?_
 rw [Tryz.ntmps114]
 simp only [Bf]
 (refine Wu @A3 ?_;(repeat clear hK K);repeat refine kq fun K hK=>?_)
 (refine Ai rfl ?_;intro K1 hK1;refine AH (ids:=[]) [1] (Gg (-1) R.length h1 hn) rfl rfl (by simp only [go_sem]) (by first | assumption | kernel_rfl) rfl rfl (by (simp only [List.map_append,List.append_nil,go_sem]) <;> rfl) (by (simp only [VS,AA,A7,go_sem]) <;> rfl) ?_ ?_)
 ·rintro _ _ ⟨rfl,rfl⟩;rfl
 rintro _ _ ⟨rfl,rfl⟩
 (simp only [As,Bl,AA,BQ,List.append_nil,List.nil_append,List.length_map,go_sem];refine hK1 _ ?_;clear hK1 K1)
 have g0:0<(List.replicate R.length (-1:Int)).length:=by simp;omega
 (refine Cn (an @A5 (an @List.length_replicate.{0} @AK)) ?_;(repeat clear hK K);repeat refine kq fun K hK=>?_)
 refine Au (Nl 42 1) ?_
 simp only [List.cons_append,List.nil_append]
 refine Au (Jj 4 0 5 (by decide) rfl rfl rfl) ?_
 simp only [List.set_cons_zero,List.set_cons_succ]
 refine Au (A9 [0,2,3,4,5] rfl rfl) ?_
 (try simp only [List.set_nil,List.take_nil,List.take_zero,List.map_append,go_sem])
 (try simp only [Af])
 refine A8 (fun x:Nat × List Int × List Int × List (List Ar)=>{ tm:=[(0,.a (.c (.t 1 (Ah R)))),(2,.a (.c (.p 0 0))),(4,.a (.c (.s 1 R.length))),(5,.a (.c (.s 2 x.2.2.1.length))),(6,.i (Bw x.2.2.2)),(7,.a (.c (.p 3 0))),(8,.i x.1)],hp:=[.r ⟨25,1,false,[.v (.slice none 0 0)]⟩,.r ⟨3,1,true,A7 x.2.1⟩,.r ⟨3,1,true,A7 x.2.2.1⟩,.r ⟨25,1,false,[.s 4 x.1]⟩,.r ⟨42,1,true,AO x.2.2.2⟩],n:=87,pin:=0 }) (fun x=>NumOk R.length x.2.1 x.2.2.1/\NumInj x.2.1 x.2.2.1/\F2 R (R.length - x.1) x.1 x.2.1 x.2.2.1 x.2.2.2=BT R/\x.1<=x.2.2.1.length/\x.2.2.2.length=x.1/\Bw x.2.2.2<=262144) (fun x=>R.length - x.1) (0,(List.replicate R.length (-1)).set 0 0,[0],[]) ?_ ?_ ?_
 ·exact ⟨NumOk.start h1,NumInj.start h1,rfl,by simp,rfl,by simp [Bw]⟩
 ·simp only [Bw,List.map_nil,List.sum_nil]
  exact WE
 rintro ⟨i,num,old,out⟩ ⟨hN,hI,hC,hio,hoi,hto⟩ K hK
 simp only at hN hI hC hio hoi hto
 have hlen:=hN.len
 have hle:=hN.le
 by_cases hlt:i<old.length
 rotate_left
 ·have d1:decide ((i:Int)<(old.length:Int))=false:=by simpa using hlt
  have hfin:BT R=(out,old):=by rw [<- hC];exact GT (by omega)
  (refine Wu (an @d1 @A5) ?_;(repeat clear hK K);repeat refine kq fun K hK=>?_)
  refine WC ?_
  (refine Wx ?_;repeat clear hK K)
  refine Au (AR (r:=⟨42,1,true,AO out⟩) (ri:=⟨25,1,false,[.s 4 i]⟩) (ts:=Ah out) 3 0 4 i (by decide) rfl rfl rfl rfl (show 0<1 by omega) (by simp only [Ay,hoi];omega) (CZ _)) ?_
  simp only [go_sem]
  refine Au (Cm 3 rfl) ?_
  simp only [VX,go_sem]
  (refine Jb ?_;(repeat clear hK K);repeat refine kq fun K hK=>?_)
  refine WF [0] Tryz.results114 ?_
  rw [hfin]
  unfold cc
  rw [if_pos hto]
  exact ⟨rfl,rfl⟩
 have d1:decide ((i:Int)<(old.length:Int))=true:=by simpa using hlt
 have hs0:=hN.st _ (gE6 hlt)
 obtain ⟨sn,hsn⟩:∃ sn:Nat,old[i]=sn:=⟨old[i].toNat,by omega⟩
 have hsl:sn<R.length:=by omega
 have go:(A7 old)[i]?=some (.v (.int .i64 sn)):=by rw [<- hsn];exact Aq (gE1 hlt)
 have hgR:=gE1 hsl
 have hrl:=hr _ (gE6 hsl)
 have hst:=GU (rows:=R) (n:=R.length) (i:=i) (num:=num) (old:=old) (out:=out) (s:=(sn:Int)) (r:=R[sn]) (by omega) (by rw [gE1 hlt,hsn]) (by simp [hgR]) rfl
 generalize hrr:R[sn]=r at *
 have hcl:=GQ (Ao r) (by rw [A2];omega)
 rw [Kt,A2,Ak] at hcl
 (refine Wu (an @d1 @A5) ?_;(repeat clear hK K);repeat refine kq fun K hK=>?_)
 refine WB ?_
 (refine Wu (an @A3 (an (Ag hgR) (an @A5 @go))) ?_;(repeat clear hK K);repeat refine kq fun K hK=>?_)
 (refine Wy hcl ?_;intro K1 hK1)
 rintro _ _ ⟨rfl,rfl⟩
 (simp only [As,Bl,CN,List.append_nil,List.nil_append,List.length_map,go_sem];refine hK1 _ ?_;clear hK1 K1)
 (refine Wt ?_;(repeat clear hK K);repeat refine kq fun K hK=>?_)
 (refine Ai rfl ?_;intro K1 hK1;refine AH (ids:=[]) [5] (Kr 139 (by kernel_rfl) au r (by omega)) rfl rfl (by simp only [go_sem]) (by first | assumption | kernel_rfl) rfl rfl (by (simp only [List.map_append,List.append_nil,go_sem]) <;> rfl) (by (simp only [VS,CH,go_sem]) <;> rfl) ?_ ?_)
 ·rintro _ _ ⟨rfl,L',_,_,rfl⟩;rfl
 rintro _ _ ⟨rfl,L',hperm,hsort,rfl⟩
 (simp only [As,Bl,CN,List.append_nil,List.nil_append,List.length_map,go_sem];refine hK1 _ ?_;clear hK1 K1)
 have hLl:=hperm.length_eq
 have hq:LJ L'=Cq r:=by rw [Nd];exact N1 hperm hsort
 rw [<- hLl]
 (refine Wt ?_;(repeat clear hK K);repeat refine kq fun K hK=>?_)
 (refine Ai rfl ?_;intro K1 hK1;refine AH (ids:=[]) [5] (It L' (by omega)) rfl rfl (by simp only [go_sem]) (by first | assumption | kernel_rfl) rfl rfl (by (simp only [List.map_append,List.append_nil,go_sem]) <;> rfl) (by (simp only [VS,CH,go_sem]) <;> rfl) ?_ ?_)
 ·rintro _ _ ⟨rfl,rest,us,_,_,rfl⟩;rfl
 rintro _ _ ⟨rfl,rest,us,hrest,hr0,rfl⟩
 (simp only [As,Bl,CN,List.append_nil,List.nil_append,List.length_map,go_sem];refine hK1 _ ?_;clear hK1 K1)
 (refine Wt ?_;(repeat clear hK K);repeat refine kq fun K hK=>?_)
 obtain ⟨q,hqd⟩:∃ q,q=Cq r:=⟨_,rfl⟩
 rw [<- hqd] at hq hst
 have hqs:SortA q:=by rw [hqd];exact B9 r
 have hql:q.length<=1000000:=by rw [hqd];exact Nat.le_trans (Gj r) (by omega)
 have hqb:∀ a∈q,0<=a.2/\a.2<(R.length:Int):=fun a ha=>by
  rw [hqd,C8] at ha
  exact hbd r (by rw [<- hrr];exact gE6 hsl) a ha
 rw [hq]
 refine Au (S0 5 (q.length*2) rfl ?_) ?_
 ·intro _ h
  rw [Ku _ _ _ (CN _ _)] at h
  have hq0:q=[]:=by
   have:=congrArg List.length h
   rw [Ap] at this
   exact List.length_eq_zero_iff.1 (by simp at this;omega)
  have hL0:L'=[]:=by
   cases L' with
   | nil=>rfl
   | cons x xs=>
    have:LJ (x :: xs)=[]:=by rw [hq,hq0]
    simp [LJ] at this
  rw [hr0 hL0,hq0];rfl
 simp only [Ku _ _ _ (CN _ _),go_sem]
 refine A8 (fun x:Nat × List Int × List Int × List Ar=>{ tm:=[(0,.a (.c (.t 1 (Ah R)))),(2,.a (.c (.p 0 0))),(4,.a (.c (.s 1 R.length))),(5,.a (.c (.s 2 x.2.2.1.length))),(6,.i (Bw out)),(7,.a (.c (.p 3 0))),(8,.i i),(9,.a (.c (.s 5 q.length))),(37,.a (.c (.s 5 q.length))),(38,.i q.length),(39,.i x.1)],hp:=[.r ⟨25,1,false,[.v (.slice none 0 0)]⟩,.r ⟨3,1,true,A7 x.2.1⟩,.r ⟨3,1,true,A7 x.2.2.1⟩,.r ⟨25,1,false,[.s 4 i]⟩,.r ⟨42,1,true,AO out⟩,.r ⟨46,2,true,Ax x.2.2.2⟩],n:=87,pin:=0 }) (fun x=>x.1<=q.length/\x.2.2.2.length=q.length/\NumOk R.length x.2.1 x.2.2.1/\old.length<=x.2.2.1.length/\NL (Eh q num old) x.2.2.2 q x.1 x.2.1 x.2.2.1) (fun x=>q.length - x.1) (0,num,old,q) ?_ ?_ ?_
 ·exact ⟨by simp,rfl,hN,Nat.le_refl _,NL.start q num old⟩
 ·exact WE
 rintro ⟨k,num1,old1,ya⟩ ⟨hk,hyl,hN1,hol,hNL⟩ K hK
 simp only at hk hyl hN1 hol hNL
 have hlen1:=hN1.len
 have hle1:=hN1.le
 by_cases hlt2:k<q.length
 rotate_left
 ·have d2:decide ((k:Int)<(q.length:Int))=false:=by simpa using hlt2
  obtain ⟨f1,f2,f3⟩:=hNL.fin (by omega) hyl
  have hnd:ya.Nodup:=by rw [f1];exact LG q hqs (fun a ha=>by rw [hlen];exact hqb a ha) hI
  have hI2:NumInj num1 old1:=by rw [f2,f3];exact Kl q (fun a ha=>by rw [hlen];exact hqb a ha) hI
  (refine Wu @d2 ?_;(repeat clear hK K);repeat refine kq fun K hK=>?_)
  refine WC ?_
  (refine Wx ?_;repeat clear hK K)
  rw [<- hyl]
  (refine Wt ?_;(repeat clear hK K);repeat refine kq fun K hK=>?_)
  (refine Ai rfl ?_;intro K1 hK1;refine AH (ids:=[]) [5] (Kr 139 (by kernel_rfl) au ya (by omega)) rfl rfl (by simp only [go_sem]) (by first | assumption | kernel_rfl) rfl rfl (by (simp only [List.map_append,List.append_nil,go_sem]) <;> rfl) (by (simp only [VS,CH,go_sem]) <;> rfl) ?_ ?_)
  ·rintro _ _ ⟨rfl,L2,_,_,rfl⟩;rfl
  rintro _ _ ⟨rfl,L2,hp2,hs2,rfl⟩
  (simp only [As,Bl,CN,List.append_nil,List.nil_append,List.length_map,go_sem];refine hK1 _ ?_;clear hK1 K1)
  have hL2:L2=Cq ya:=LE hnd hp2 hs2
  have hL2l:=hp2.length_eq
  rw [<- hL2l]
  (refine BS (Bg (r:=⟨46,2,true,Ax L2⟩) 5 (Ao L2) rfl (Dl _) (show 0<(2:Nat) by omega)) ?_;simp only [ST.frz,A0.frz,AV.frz,C.frz,Nat.le_refl,List.set_cons_zero,List.set_cons_succ,go_sem,A2,Ak,BA,List.take_length])
  have htt:Bw (out++[L2])=Bw out+L2.length:=by rw [aj,aP]
  have hCn:F2 R (R.length - (i+1)) (i+1) num1 old1 (out++[L2])=BT R:=by
   rw [<- hC,hst,LF,f2,f3,hL2,f1]
   rfl
  by_cases htb:Bw (out++[L2]) > 262144
  ·have d5:decide ((Bw out:Int)+(L2.length:Int) > 262144)=true:=gEg (by omega)
   (refine Wu (an @A2 (an @Ak @d5)) ?_;(repeat clear hK K);repeat refine kq fun K hK=>?_)
   refine WB ?_
   (refine Jb ?_;(repeat clear hK K);repeat refine kq fun K hK=>?_)
   refine WF [0] Tryz.results114 ?_
   obtain ⟨l,hl⟩:=aH R (R.length - (i+1)) (i+1) num1 old1 (out++[L2])
   rw [hCn] at hl
   unfold cc
   rw [if_neg (by rw [hl,aj];omega)]
   exact ⟨rfl,rfl⟩
  have d5:decide ((Bw out:Int)+(L2.length:Int) > 262144)=false:=decide_eq_false (by omega)
  have crp:=GX out L2 hoi
  have ett:(Bw out:Int)+(L2.length:Int)=(Bw (out++[L2]):Int):=by omega
  (refine Wu (an @A2 (an @Ak @d5)) ?_;(repeat clear hK K);repeat refine kq fun K hK=>?_)
  refine WC ?_
  (refine Cn (an @crp (an @Ay @hoi)) ?_;(repeat clear hK K);repeat refine kq fun K hK=>?_)
  refine WD ?_
  refine hK _ (i+1,num1,old1,out++[L2]) ⟨hN1,hI2,hCn,by simp only;omega,by simp [hoi],by simp only;omega⟩ (by simp only;omega) ?_
  refine Le.trans (A9 [0,1,2,3,7] rfl rfl) ?_
  (try simp only [List.set_nil,List.take_nil,List.take_zero,List.map_append,go_sem])
  (try simp only [Af,Bs,ett])
  exact WE
 have d2:decide ((k:Int)<(q.length:Int))=true:=by simpa using hlt2
 have hky:k<ya.length:=by omega
 have hyq:ya[k]=q[k]:=by
  have:=congrArg (fun l=>l[0]?) hNL.2.2.2
  simp only [List.getElem?_drop,Nat.add_zero] at this
  rw [gE1 hky,gE1 hlt2] at this
  exact Option.some.inj this
 have hyb:=hqb _ (gE6 hlt2)
 rw [<- hyq] at hyb
 obtain ⟨e,tn,hya⟩:∃ (e:Int) (tn:Nat),ya[k]=(e,(tn:Int)):=⟨ya[k].1,ya[k].2.toNat,by
  have:(ya[k].2.toNat:Int)=ya[k].2:=by omega
  rw [this]⟩
 have hyk:ya[k]?=some (e,(tn:Int)):=by rw [gE1 hky,hya]
 have htl:tn<R.length:=by rw [hya] at hyb;have:=hyb.2;simp only at this;omega
 have hat:=DR hky
 rw [hya] at hat
 have gn:(A7 num1)[tn]?=some (.v (.int .i64 num1[tn])):=Aq (gE1 (by omega))
 have gn2:num1[tn]?=some num1[tn]:=gE1 (by omega)
 (refine Wu @d2 ?_;(repeat clear hK K);repeat refine kq fun K hK=>?_)
 refine WB ?_
 by_cases hx:num1[tn]<0
 rotate_left
 ·have d3:decide (num1[tn]<0)=false:=by simpa using hx
  have cs:=F5 hyk num1[tn]
  (refine Cn (an @hat (an @Ap (an @hyl (an @gn (an @d3 (an @A5 @hlen1)))))) ?_;(repeat clear hK K);repeat refine kq fun K hK=>?_)
  refine WC ?_
  (refine Cn (an @gn (an @cs (an @Ap (an @hyl (an @A5 @hlen1))))) ?_;(repeat clear hK K);repeat refine kq fun K hK=>?_)
  refine WD ?_
  refine hK _ (k+1,num1,old1,ya.set k (e,num1[tn])) ⟨hlt2,by simp [hyl],hN1,hol,hNL.pos hyk gn2 hx⟩ (by simp only;omega) ?_
  refine Le.trans (A9 [0,1,2,3,4,5] rfl rfl) ?_
  (try simp only [List.set_nil,List.take_nil,List.take_zero,List.map_append,go_sem])
  (try simp only [Af,CH,Bs])
  exact WE
 have d3:decide (num1[tn]<0)=true:=by simpa using hx
 have gs:(A7 (num1.set tn (old1.length:Int)))[tn]?=some (.v (.int .i64 (old1.length:Int))):=Aq (gEc (by omega))
 have op:=Ho old1 (tn:Int)
 have cs:=F5 hyk (old1.length:Int)
 (refine Cn (an @hat (an @Ap (an @hyl (an @gn (an @d3 (an @A5 @hlen1)))))) ?_;(repeat clear hK K);repeat refine kq fun K hK=>?_)
 refine WB ?_
 (refine Cn (an @A5 (an @hlen1 (an @AK (an @op (an @gs (an @cs (an @Ap (an @hyl @List.length_set.{0})))))))) ?_;(repeat clear hK K);repeat refine kq fun K hK=>?_)
 refine WD ?_
 have hone:AX num1 old1 (tn:Int)=(num1.set tn (old1.length:Int),old1++[(tn:Int)]):=by
  simp only [AX,Int.toNat_natCast,List.getD,gn2,Option.getD_some,if_pos hx]
 have hN2:=hN1.one (t:=(tn:Int)) (by omega) (by omega)
 rw [hone] at hN2
 refine hK _ (k+1,num1.set tn (old1.length:Int),old1++[(tn:Int)],ya.set k (e,(old1.length:Int))) ⟨hlt2,by simp [hyl],hN2,by simp;omega,hNL.neg hyk gn2 hx rfl⟩ (by simp only;omega) ?_
 refine Le.trans (A9 [0,1,8,3,4,5] rfl rfl) ?_
 (try simp only [List.set_nil,List.take_nil,List.take_zero,List.map_append,go_sem])
 (try simp only [Af,CH,Bs])
 simp only [List.length_append,List.length_cons,List.length_nil]
 exact WE
end Go.Proofs.YtjijjfkalheokaaGreatDoor
