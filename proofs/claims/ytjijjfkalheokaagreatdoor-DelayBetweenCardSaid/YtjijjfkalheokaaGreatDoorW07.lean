/- Lemmas. -/
import Derived.Test.YtjijjfkalheokaaGreatDoorZk
import Derived.Test.YtjijjfkalheokaaGreatDoorW03
import Derived.Test.YtjijjfkalheokaaGreatDoorMno
import Derived.Test.YtjijjfkalheokaaGreatDoorG59
import Derived.Test.YtjijjfkalheokaaGreatDoorG70
import Derived.Test.YtjijjfkalheokaaGreatDoorG11
import Derived.Test.YtjijjfkalheokaaGreatDoorG37
import Derived.Test.YtjijjfkalheokaaGreatDoorG39
import Derived.Test.YtjijjfkalheokaaGreatDoorShlfD
import Derived.Test.YtjijjfkalheokaaGreatDoorMD
namespace Go.Proofs.YtjijjfkalheokaaGreatDoor
set_option linter.unusedVariables false
set_option linter.unusedSimpArgs false
open Go.RowKit
set_option maxRecDepth 100000
attribute [local go_sem] lga C.pl C.one

def CpC (X:List (List Ar)) (D c:List Int):Prop:=∀ v,v<X.length->c.getD (XG D v) 0=c.getD v 0
theorem Uu {X:List (List Ar)} {D cl:List Int} (hv:Bv X=true) (h:CpOk X D) (hc:Nrm X.length cl) {v:Nat} (hs:v<X.length):Xi (C9 X) cl (XG D v)=Xi (C9 X) cl v:=by
 have hcv:=(BN hv h hs).2.1
 refine Cg (B9 _) (B9 _) fun x=>?_
 show x∈Xi (C9 X) cl (XG D v)↔x∈Xi (C9 X) cl v
 obtain ⟨e,y⟩:=x
 have key:∀ i:Nat,(e,(i:Int))∈Xi (C9 X) cl (XG D v)↔(e,(i:Int))∈Xi (C9 X) cl v:=fun i=>by
  by_cases he:e=0
  ·subst he;rw [Fe hv hcv,Fe hv hs,O6 hv h hs]
  rw [Ff hv hcv he,Ff hv hs he,LU hv h hs]
 constructor
 rotate_left
 ·intro hx
  obtain ⟨i,_,hy⟩:=NZ hv hc hs hx
  simp only at hy
  subst hy
  exact (key i).2 hx
 intro hx
 obtain ⟨i,_,hy⟩:=NZ hv hc hcv hx
 simp only at hy
 subst hy
 exact (key i).1 hx
theorem CpC.next {X:List (List Ar)} {D cl:List Int} (hv:Bv X=true) (hn:X.length<=100) (h:CpOk X D) (hc:Nrm X.length cl) (hC:CpC X D cl):CpC X D (Xk (C9 X) cl):=by
 intro v hs
 have hSl:=(Ht hv hn).1
 have hcv:=(BN hv h hs).2.1
 unfold Xk
 refine ((Cx (Xj (C9 X) cl) (C9 X).length).eq _ _ (by omega) (by omega)).2 ?_
 unfold Xj
 rw [hC v hs,Uu hv h hc hs]
theorem CpC.start {X:List (List Ar)} {D:List Int} {B:List Bool} (hv:Bv X=true) (h:CpOk X D) (hB:DvL X B):CpC X D (Xv B X.length):=by
 intro v hs
 obtain ⟨_,hcv,p3,p4,_⟩:=BN hv h hs
 rw [Jq hcv,Jq hs]
 have e:B.getD (XG D v) false=B.getD v false:=by
  rw [Bool.eq_iff_iff,hB.2 _ hcv,hB.2 _ hs]
  exact ⟨fun ⟨g,q1,q2⟩=>⟨g,p3.trans q1,q2⟩,fun ⟨g,q1,q2⟩=>⟨g,p4.trans q1,q2⟩⟩
 unfold Xu
 rw [e]
theorem KeyOf.cp {X:List (List Ar)} {D cl L:List Int} (hv:Bv X=true) (h:CpOk X D) (hC:CpC X D cl) {v:Nat} (hs:v<X.length) (hk:KeyOf X cl (XG D v) L):KeyOf X cl v L:=by
 obtain ⟨t,V,e1,e2,e3,e4,e5⟩:=hk.ex
 refine ⟨t,V,by rw [<- hC v hs];exact e1,e2.iff fun i _=>O6 hv h hs,e3,fun p hp=>?_,fun e i hr=>e5 e i ((LU hv h hs).2 hr)⟩
 obtain ⟨a1,a2,i,a3⟩:=e4 p hp
 exact ⟨a1,a2.iff fun i _=>LU hv h hs,i,(LU hv h hs).1 a3⟩
theorem Uv {X:List (List Ar)} {cl:List Int} (hv:Bv X=true) {s i:Nat} {e:Int} (h:RV X cl s e i):0<=e/\e<=1025:=by
 obtain ⟨_,u,hu,_,a,ha,rfl,_⟩:=h
 have:=EJ hv hu ha
 exact ⟨this.1,this.2.1⟩
theorem KeyOf.mk2 {X:List (List Ar)} {cl:List Int} (hv:Bv X=true) (hc:Nrm X.length cl) (hn:X.length<=64) {s w:Nat} {H:List Ob} {V:List (Int × Nat × Nat)} {VL:List (Int × Nat)} (hw:WS w (RT X cl s)) (hV:VSt H 6 V (RV X cl s)) (h1:WI (VL.map (·.1))) (h2:∀ q,q∈VL↔∃ p∈V,q=(p.1,p.2.2)):KeyOf X cl s (FM (cl.getD s 0) w VL):=by
 refine ⟨w,VL,rfl,hw,h1,fun q hq=>?_,fun e i hr=>?_⟩
 rotate_left
 ·have hi:=UY hv hc hr
  obtain ⟨p,hp,rfl,_⟩:=(hV.ex e i (by omega)).2 hr
  exact List.mem_map.2 ⟨_,(h2 _).2 ⟨p,hp,rfl⟩,rfl⟩
 obtain ⟨p,hp,rfl⟩:=(h2 q).1 hq
 obtain ⟨o1,o2,o3,i,hi,ho⟩:=hV.ob p hp
 have hex:=(hV.ex p.1 i hi).1 ⟨p,hp,rfl,ho⟩
 refine ⟨Uv hv hex,⟨o3,fun i hi=>?_⟩,i,hex⟩
 rw [<- hV.ex p.1 i hi]
 constructor
 ·intro hb;exact ⟨p,hp,rfl,hb⟩
 rintro ⟨p',hp',e1,hb⟩
 rw [<- Gv hV.nd hp' hp e1];exact hb
theorem KeyOf.nn {X:List (List Ar)} {cl L:List Int} (hc:Nrm X.length cl) (hn:X.length<=64) {s:Nat} (hs:s<X.length) (h:KeyOf X cl s L):UX L:=by
 obtain ⟨t,V,rfl,e2,e3,e4,e5⟩:=h.ex
 have hcl:=hc.len
 have hm:cl.getD s 0∈cl:=by rw [gE2,gE1 (by omega)];exact gE6 _
 have hr:=hc.rng _ hm
 intro x hx
 unfold FM at hx
 simp only [List.mem_cons,List.mem_append,List.mem_flatMap] at hx
 rcases hx with rfl | rfl | hx | ⟨p,hp,rfl | rfl | hx⟩
 ·omega
 ·have:=CP t;omega
 ·have:=KW x hx;omega
 ·have:=(e4 p hp).1;omega
 ·have:=CP p.2;omega
 have:=KW x hx;omega
theorem V4 {X:List (List Ar)} {cl:List Int} {ky:List Value} (hv:Bv X=true) (hn:X.length<=64) (hc:Nrm X.length cl) (hl:ky.length=X.length) (h:∀ s,s<X.length->∃ L,ky[s]?=some (Jx L)/\KeyOf X cl s L):Tu ky (Xj (C9 X) cl):=by
 intro a b ha hb
 rw [hl] at ha hb
 obtain ⟨L,h1,h2⟩:=h a ha
 obtain ⟨M,h3,h4⟩:=h b hb
 rw [gE2,h1,gE2,h3,Option.getD_some,Option.getD_some,Sq (h2.nn hc hn ha) (h4.nn hc hn hb)]
 congr 1
 rw [decide_eq_decide]
 exact KeyOf.iff hv hn hc ha hb h2 h4
theorem HS.setK {r0:Row} {n:Nat} {H:List Ob} {tc vc:List C} {ky:List Value} (h:HS r0 ⟨9,1,true,ZG ky⟩ n H tc vc) (ky':List Value):HS r0 ⟨9,1,true,ZG ky'⟩ n (H.set 1 (.r ⟨9,1,true,ZG ky'⟩)) tc vc:=
 ⟨by rw [gE5 (by omega)];exact h.h0,gEc (Br h.hx),by rw [gE5 (by omega)];exact h.h1,by rw [gE5 (by omega)];exact h.h2,by rw [gE5 (by omega)];exact h.h3,by rw [gE5 (by omega)];exact h.h4,C2 h.ok (y:=.r ⟨9,1,true,ZG ky'⟩) (by show (ZG ky').all C.pl=true;simp [ZG,C.pl]) 1⟩
theorem TA.set1 {X:List (List Ar)} {cl:List Int} {Q:List Nat} {k:Nat} {H:List Ob} {tc:List C} (h:TA X cl Q k H tc) (ob:Ob):TA X cl Q k (H.set 1 ob) tc:=⟨h.1,h.2.1,fun j c hj hc=>by
 obtain ⟨y,w,a,b,d,e⟩:=h.2.2 j c hj hc
 exact ⟨y,w,a,b,by rw [gE5 (by omega)];exact d,e⟩⟩
theorem TB.set1 {X:List (List Ar)} {cl:List Int} {Q:List Nat} {k:Nat} {H:List Ob} {vc:List C} (h:TB X cl Q k H vc) (ob:Ob):TB X cl Q k (H.set 1 ob) vc:=⟨h.1,h.2.1,fun j c hj hc=>by
 obtain ⟨m,V,a,a2,b,d⟩:=h.2.2 j c hj hc
 refine ⟨m,V,a,a2,by rw [gE5 (by omega)];exact b,d.nd,d.nk,fun p hp=>?_,d.ex⟩
 obtain ⟨q1,q2,q3⟩:=d.ob p hp
 exact ⟨q1,by rw [gE5 (by omega)];exact q2,q3⟩⟩
theorem Uw (ky:List Value):(ZG ky).all C.pl=true:=by simp [ZG,C.pl]
section
variable {o : Oper} {st : ST} {K : ST -> Prop} {α : Type} [DecidableEq α]
theorem H4 {x:Operand} {ts:Array TypeId} {a:Nat} {ky:List Value} (g:Nat->α) (hky:Tu ky g) (hn:ky.length<=1000000) (hd:VJ o st.n=true) (ho:o.op=.call { callee:=.value (.func 76),args:=#[x],argTypes:=ts }) (hx:st.ev x=.a (.c (.s a ky.length))) (ha:st.hp[a]?=some (.r ⟨9,1,true,ZG ky⟩))
  (hnb:Fi [a] st.tm=st.tm) (h:K ({ st with hp:=st.hp++[AA (Xh g ky.length).1] }.put o.dst (.tup [.c (.s st.hp.length ky.length),.c (.v (.int .i64 (Xh g ky.length).2))]))):Stp Tryz.prog o st K:=by
 have i1:idx [a] a 0=some 0:=by simp [idx]
 have hren:(Ob.r ⟨9,1,true,ZG ky⟩).ren [a]=.r ⟨9,1,true,ZG ky⟩:=by simp [Ob.ren,Fd]
 refine AH (ids:=[]) [a] (SN ky g hky hn) hd ho rfl (by kernel_rfl) rfl (by simp [Br ha]) ?_ ?_ ?_ ?_
 ·simp [hx,Em,AV.ren,A0.ren,C.ren,i1]
 ·simp only [VS,List.map_cons,List.map_nil,D0 ha,hren]
 ·rintro r outs ⟨rfl,rfl⟩;rfl
 rintro r outs ⟨rfl,rfl⟩
 have e:st.back [a] [.r ⟨9,1,true,ZG ky⟩,AA (Xh g ky.length).1]={ st with hp:=st.hp++[AA (Xh g ky.length).1] }:=by
  unfold ST.back
  rw [hnb]
  have e2:(Ob.r ⟨9,1,true,ZG ky⟩).up (VV [a] st.hp.length)=.r ⟨9,1,true,ZG ky⟩:=by simp [Ob.up,Uq]
  simp only [List.map_cons,List.map_nil,HG,e2,Cb]
  rw [FN ha]
 rw [e]
 have e3:(AV.tup [.c (.s 1 ky.length),.c (.v (.int .i64 (Xh g ky.length).2))]).up (VV [a] st.hp.length)=.tup [.c (.s st.hp.length ky.length),.c (.v (.int .i64 (Xh g ky.length).2))]:=by simp [AV.up,A0.up,C.up,VV]
 rw [e3];exact h
end
set_option maxHeartbeats 8000000 in
theorem T6 (X:List (List Ar)) (D:List Int) (Q:List Nat) (dv:List Bool) (hv:Bv X=true) (hn:X.length<=64) (hr:∀ r∈X,r.length<=1000000) (hD:CpOk X D) (hQ:Hr (Xy (XG D) X X.length) X.length (XG D) Q) (hB:DvL X dv):FC Tryz.prog 41 [.a (.c (.p 0 0))] [.r (Y9 X D (Q.map Int.ofNat) (Y6 (XG D) X.length) dv)] (fun r o=>∃ c,WkC X c/\Nrm X.length c/\r=As c/\o=[.r (Y9 X D (Q.map Int.ofNat) (Y6 (XG D) X.length) dv)]):=by
 refine A6 Tryz.func41 rfl (by rw [Tryz.ntmps41];simp) ?_
 rw [Tryz.ntmps41]
 have hlo:BE X=true:=gEg (gE4 hv).1
 have h1:1<=X.length:=(gE4 hlo).1
 have hDl:=hD.1
 have hBl:=hB.1
 simp only [Bf,Y9]
 (refine Wu (an @A3 (an @BD @hBl)) ?_;(repeat clear hK K);repeat refine kq fun K hK=>?_)
 have e0:List.replicate X.length (C.v (.string { data:=#[] }))=ZG (Y3 Yh Yi dv X.length 0):=by rw [Qd];simp [ZG,Yi]
 rw [e0]
 refine A8 (fun k:Nat=>{ tm:=[(0,.a (.c (.p 0 0))),(3,.a (.c (.s 1 X.length))),(23,.a (.c (.t 1 (X6 dv)))),(24,.i X.length),(25,.i k)],hp:=[.r (Y9 X D (Q.map Int.ofNat) (Y6 (XG D) X.length) dv),.r ⟨9,1,true,ZG (Y3 Yh Yi dv X.length k)⟩],n:=86,pin:=1 }) (fun k=>k<=X.length) (fun k=>X.length - k) 0 ?_ ?_ ?_
 ·omega
 ·simp only [Y9]
  exact WE
 rintro k hk K hK
 simp only [Y9]
 by_cases hlt:k<X.length
 ·have d1:decide ((k:Int)<(X.length:Int))=true:=by simpa using hlt
  have gB:(X6 dv)[k]?=some (.v (.bool (dv.getD k false))):=F7 (by rw [gE2,gE1 (by omega)];rfl)
  have hkt:=Qe (kd:=Yh) (ke:=Yi) (B:=dv) (n:=X.length) (k:=k)
  have hkf:=NV (kd:=Yh) (ke:=Yi) (B:=dv) (n:=X.length) (k:=k)
  have hkl:=Hx Yh Yi dv X.length k
  generalize dv.getD k false=b at *
  (refine Wu @d1 ?_;(repeat clear hK K);repeat refine kq fun K hK=>?_)
  refine WB ?_
  (refine Wu (an @BD (an @hBl @gB)) ?_;(repeat clear hK K);repeat refine kq fun K hK=>?_)
  cases b with
  | true=>
   have hkt:=hkt rfl
   refine WB ?_
   have hks:(ZG (Y3 Yh Yi dv X.length k)).set k (C.v (Value.string { data:=#[100,105,118,101,114,103,101,110,116] }))=ZG (Y3 Yh Yi dv X.length (k+1)):=by rw [<- hkt];exact Jz _ _ _
   (refine Cn (an @Gt (an @hkl @hks)) ?_;(repeat clear hK K);repeat refine kq fun K hK=>?_)
   refine WD ?_
   refine hK _ (k+1) (by omega) (by omega) ?_
   simp only [Y9]
   exact WE
  | false=>
   have hkf:=hkf rfl
   refine WC ?_
   (refine Wt ?_;(repeat clear hK K);repeat refine kq fun K hK=>?_)
   refine WD ?_
   refine hK _ (k+1) (by omega) (by omega) ?_
   rw [hkf]
   simp only [Y9]
   exact WE
 have d1:decide ((k:Int)<(X.length:Int))=false:=by simpa using hlt
 have hke:k=X.length:=by omega
 rw [hke] at d1
 rw [hke]
 have hko:=Uh (kd:=Yh) (ke:=Yi) (by kernel_rfl) (by kernel_rfl) (by kernel_rfl) (by kernel_rfl) dv X.length
 have hkl:=Hx Yh Yi dv X.length X.length
 obtain ⟨hnm,_⟩:=U5 (B:=dv) X.length h1
 have hN0:=NC dv h1
 have hC0:=CpC.start hv hD hB
 have hc0:F9 X.length (Xv dv X.length)=(Xh (fun s=>dv.getD s false) X.length).2:=by rw [<- hnm,NA]
 generalize Y3 Yh Yi dv X.length X.length=ky0 at *
 (refine Wu @d1 ?_;(repeat clear hK K);repeat refine kq fun K hK=>?_)
 refine WC ?_
 (refine Wx ?_;repeat clear hK K)
 (refine Wt ?_;(repeat clear hK K);repeat refine kq fun K hK=>?_)
 (refine Ai rfl ?_;intro K1 hK1;refine H4 (a:=1) (ky:=ky0) (fun s=>dv.getD s false) hko (by omega) rfl rfl (by simp only [go_sem,hkl]) rfl (by simp [Fi,AV.nb,A0.nb,C.nb]) ?_;simp only [go_sem];refine hK1 _ ?_;clear hK1 K1)
 rw [hkl,hnm,<- hc0]
 clear hnm hc0
 generalize hc00:Xv dv X.length=c0 at *
 have hN0l:=hN0.len
 (refine Wt ?_;(repeat clear hK K);repeat refine kq fun K hK=>?_)
 simp only [AA,List.length_cons,List.length_nil,Nat.zero_add,List.cons_append,List.nil_append]
 have hf0:(if X.length<=(Ab c0).length then C.t 1 ((Ab c0).take X.length) else C.u)=C.t 1 (Ab c0):=by rw [if_pos (by rw [A4];omega),gE7 (by rw [A4];omega)]
 (refine Au (Bg (r:=⟨3,1,true,A7 c0⟩) 2 (Ab c0) rfl (EM _) (show 0<(1:Nat) by omega)) ?_;simp only [ST.frz,A0.frz,AV.frz,C.frz,Nat.le_refl,List.set_cons_zero,List.set_cons_succ,go_sem,hf0])
 have hSl:=(Ht hv (by omega)).1
 refine A8 (fun x:Nat × List Int × List Value=>{ tm:=[(0,.a (.c (.p 0 0))),(3,.a (.c (.s 1 X.length))),(6,.a (.c (.t 1 (Ab x.2.1)))),(7,.i (F9 X.length x.2.1))],hp:=[.r (Y9 X D (Q.map Int.ofNat) (Y6 (XG D) X.length) dv),.r ⟨9,1,true,ZG x.2.2⟩],n:=86,pin:=1 }) (fun x=>x.2.1=Xl (C9 X) c0 x.1/\Nrm X.length x.2.1/\CpC X D x.2.1/\x.2.2.length=X.length) (fun x=>X.length - F9 X.length x.2.1) (0,c0,ky0) ?_ ?_ ?_
 ·exact ⟨rfl,hN0,hC0,hkl⟩
 ·refine Le.trans (A9 [0,1] rfl rfl) ?_
  (try simp only [List.set_nil,List.take_nil,List.take_zero,List.map_append,go_sem])
  (try simp only [Fd])
  simp only [Y9]
  exact WE
 clear hk hlt d1 hke hko
 rintro ⟨j,nw,ky⟩ ⟨hit,hN,hC,hkyl⟩ K hK
 simp only at hit hN hC hkyl
 simp only
 have hcn:=KK X.length nw
 have hNl:=hN.len
 have hcn1:1<=F9 X.length nw:=by
  have:=(Cx (fun s=>nw.getD s 0) X.length).rng 0 (by omega)
  unfold F9;omega
 have hnn:=NB (C9 X) nw
 have hnl:=U4 (S:=C9 X) (by rw [hSl];exact hN)
 rw [hSl] at hnn hnl
 have hcn2:=KK X.length (Xk (C9 X) nw)
 have hnc:F9 X.length (Xk (C9 X) nw)=(Xh (Xj (C9 X) nw) X.length).2:=by
  have:=NA (Xj (C9 X) nw) X.length
  unfold Xk;rw [hSl];exact this
 have hnc1:(Xh (Xj (C9 X) nw) X.length).1=Xk (C9 X) nw:=by unfold Xk;rw [hSl]
 have hCn:=hC.next hv (by omega) hD hN
 (refine Wt ?_;(repeat clear hK K);repeat refine kq fun K hK=>?_)
 (refine Ai rfl ?_;intro K1 hK1;refine Di (f:=77) (ids:=[]) (R:=fun r o=>r=.a (.c (.p 5 0))/\∃ tc vc,HS (Y9 X D (Q.map Int.ofNat) (Y6 (XG D) X.length) dv) ⟨9,1,true,ZG ky⟩ X.length o tc vc/\TA X nw Q Q.length o tc/\TB X nw Q Q.length o vc) rfl rfl (by simp only [go_sem]) (by kernel_rfl) (Un X D nw Q dv (F9 X.length nw) ⟨9,1,true,ZG ky⟩ (Uw ky) (Fd ky) hv hn hr hD hQ hN hcn1 (by omega)) (fun r outs h=>Hz h.2.choose_spec.choose_spec.1.ok) ?_)
 rintro r G ⟨rfl,tc,vc,hH,hT,hTB⟩
 (simp only [go_sem];refine hK1 _ ?_;clear hK1 K1)
 have gs:=hH.h0
 (refine Wu (an @gs (an @GC (an @A4 @hDl))) ?_;(repeat clear hK K);repeat refine kq fun K hK=>?_)
 refine A8 (fun x:Nat × List Ob × List Value=>{ tm:=[(0,.a (.c (.p 0 0))),(3,.a (.c (.s 1 X.length))),(6,.a (.c (.t 1 (Ab nw)))),(7,.i (F9 X.length nw)),(8,.a (.c (.p 5 0))),(47,.a (.c (.t 1 (Ab D)))),(48,.i X.length),(49,.i x.1)],hp:=x.2.1,n:=86,pin:=1 }) (fun x=>x.1<=X.length/\x.2.2.length=X.length/\(∀ s,s<x.1->∃ L,x.2.2[s]?=some (Jx L)/\KeyOf X nw s L)/\HS (Y9 X D (Q.map Int.ofNat) (Y6 (XG D) X.length) dv) ⟨9,1,true,ZG x.2.2⟩ X.length x.2.1 tc vc/\TA X nw Q Q.length x.2.1 tc/\TB X nw Q Q.length x.2.1 vc) (fun x=>X.length - x.1) (0,G,ky) ?_ ?_ ?_
 ·exact ⟨by simp,hkyl,fun s hs=>by simp at hs,hH,hT,hTB⟩
 ·exact WE
 clear hH hT hTB gs hkyl
 rintro ⟨k,G,ky⟩ ⟨hk,hkyl,hkys,hH,hT,hTB⟩ K hK
 simp only at hk hkyl hkys hH hT hTB
 simp only
 by_cases hlk:k<X.length
 rotate_left
 ·have d2:decide ((k:Int)<(X.length:Int))=false:=by simpa using hlk
  have hke:k=X.length:=by omega
  have hko:=V4 hv hn hN hkyl (fun s hs=>hkys s (by omega))
  have g0:=hH.h0
  have g1:=hH.hx
  (refine Wu @d2 ?_;(repeat clear hK K);repeat refine kq fun K hK=>?_)
  refine WC ?_
  (refine Wx ?_;repeat clear hK K)
  (refine Wt ?_;(repeat clear hK K);repeat refine kq fun K hK=>?_)
  (refine Ai rfl ?_;intro K1 hK1;refine H4 (a:=1) (ky:=ky) (Xj (C9 X) nw) hko (by omega) rfl rfl (by simp only [go_sem,hkyl]) g1 (by simp [Fi,AV.nb,A0.nb,C.nb]) ?_;simp only [go_sem];refine hK1 _ ?_;clear hK1 K1)
  rw [hkyl,hnc1,<- hnc]
  (refine Wt ?_;(repeat clear hK K);repeat refine kq fun K hK=>?_)
  have hG6:=Br hH.h4
  obtain ⟨lg,hlg⟩:∃ l,G.length=l:=⟨_,rfl⟩
  rw [hlg] at hG6
  simp only [hlg]
  have gn:=Bp G (AA (Xk (C9 X) nw))
  rw [hlg] at gn
  have g0':=(Pre.push G (AA (Xk (C9 X) nw))).at g0
  have g1':=(Pre.push G (AA (Xk (C9 X) nw))).at g1
  generalize G++[AA (Xk (C9 X) nw)]=G2 at *
  refine Au (BG (tm:=[(0,.a (.c (.p 0 0))),(3,.a (.c (.s 1 X.length))),(6,.a (.c (.t 1 (Ab nw)))),(7,.i (F9 X.length nw)),(11,.a (.c (.s lg X.length))),(12,.i (F9 X.length (Xk (C9 X) nw))),(82,.b (((F9 X.length (Xk (C9 X) nw):Nat):Int) == ((F9 X.length nw:Nat):Int)))]) ?_) ?_
  ·simp only [Dg,go_sem];try simp
  have i1:idx [0,1,lg] 1 0=some 1:=by simp [idx]
  have i2:idx [0,1,lg] lg 0=some 2:=by
   have e1:¬ 0=lg:=by omega
   have e2:¬ 1=lg:=by omega
   simp [idx,e1,e2]
  refine Au (A9 [0,1,lg] ?_ rfl) ?_
  ·have e1:¬ 0=lg:=by omega
   have e2:¬ 1=lg:=by omega
   simp [Ba];omega
  have i0:idx [0,1,lg] 0 0=some 0:=rfl
  have hr1:(Ob.r (Y9 X D (Q.map Int.ofNat) (Y6 (XG D) X.length) dv)).ren [0,1,lg]=.r (Y9 X D (Q.map Int.ofNat) (Y6 (XG D) X.length) dv):=by simp [Ob.ren,Y9,C.ren]
  have hr2:(Ob.r ⟨9,1,true,ZG ky⟩).ren [0,1,lg]=.r ⟨9,1,true,ZG ky⟩:=by simp [Ob.ren,Fd]
  have hr3:=Gw (Xk (C9 X) nw) [0,1,lg]
  simp only [ST.pick,List.map_cons,List.map_nil,AV.ren,A0.ren,C.ren,AV.i,AV.b,i0,i1,i2,D0 g0',D0 g1',D0 gn,hr1,hr2,hr3]
  by_cases hceq:F9 X.length (Xk (C9 X) nw)=F9 X.length nw
  ·have hfx:Xk (C9 X) nw=nw:=Decidable.byContradiction fun h=>by have:=hnl h;omega
   have d4:(((F9 X.length (Xk (C9 X) nw):Nat):Int) == ((F9 X.length nw:Nat):Int))=true:=by rw [hceq];simp
   simp only [d4]
   refine WB ?_
   (refine Wt ?_;(repeat clear hK K);repeat refine kq fun K hK=>?_)
   ((try refine Av ?_);(try simp only [Ae,AF]);refine B6 (A9 [0] rfl rfl) ?_;(try simp only [List.set_nil,List.take_nil,List.take_zero,List.map_append,go_sem]);((try refine Av ?_);(try refine Aa ?_);(try simp only [Ae,AF]);refine Bj (by first | exact .inl rfl | exact .inr rfl) rfl ?_;simp only [VU,Dy,Du,DL,Tryz.results41,go_sem,true_and,and_true,As,Y9]))
   exact ⟨nw,⟨dv,hB,j,by rw [hc00];exact hit,hfx⟩,hN,rfl⟩
  have hne:Xk (C9 X) nw ≠ nw:=fun h=>hceq (by rw [h])
  have hlt2:=hnl hne
  have d4:(((F9 X.length (Xk (C9 X) nw):Nat):Int) == ((F9 X.length nw:Nat):Int))=false:=by simp only [beq_eq_false_iff_ne,ne_eq];omega
  simp only [d4]
  refine WC ?_
  (refine Wt ?_;(repeat clear hK K);repeat refine kq fun K hK=>?_)
  refine WD ?_
  refine hK _ (j+1,Xk (C9 X) nw,ky) ⟨?_,hnn,hCn,hkyl⟩ (by simp only;omega) ?_
  ·simp only
   rw [show Xl (C9 X) c0 (j+1)=Xk (C9 X) (Xl (C9 X) c0 j) from rfl,<- hit]
  simp only
  have hw2l:=hnn.len
  generalize hw2:Xk (C9 X) nw=w2 at *
  have hf0:(if X.length<=(Ab w2).length then C.t 1 ((Ab w2).take X.length) else C.u)=C.t 1 (Ab w2):=by rw [if_pos (by rw [A4];omega),gE7 (by rw [A4];omega)]
  simp only [AA]
  (refine SO (Bg (r:=⟨3,1,true,A7 w2⟩) 2 (Ab w2) rfl (EM _) (show 0<(1:Nat) by omega)) ?_;simp only [ST.frz,A0.frz,AV.frz,C.frz,Nat.le_refl,List.set_cons_zero,List.set_cons_succ,go_sem,hf0])
  refine Le.trans (A9 [0,1] rfl rfl) ?_
  (try simp only [List.set_nil,List.take_nil,List.take_zero,List.map_append,go_sem])
  (try simp only [Fd])
  simp only [Y9]
  exact WE
 have d2:decide ((k:Int)<(X.length:Int))=true:=by simpa using hlk
 obtain ⟨gD0,hfk,hr1,hr2,hff⟩:=BN hv hD hlk
 have gD:=Am gD0
 have hle:XG D k<=k:=by
  obtain ⟨m,e1,_,_,e4⟩:=hD.2 k hlk
  rw [NG gD0] at e1
  have:=e4 k (.refl _) (.refl _)
  omega
 have g1:=hH.hx
 have hcl:(ZG ky).length=X.length:=by rw [Gt,hkyl]
 (refine Wu @d2 ?_;(repeat clear hK K);repeat refine kq fun K hK=>?_)
 refine WB ?_
 (refine Wu (an @gD (an @A4 @hDl)) ?_;(repeat clear hK K);repeat refine kq fun K hK=>?_)
 by_cases hek:XG D k=k
 rotate_left
 ·have d3:((k:Int) == ((XG D k:Nat):Int))=false:=by simp only [beq_eq_false_iff_ne,ne_eq];omega
  simp only [d3]
  obtain ⟨L,q1,q2⟩:=hkys (XG D k) (by omega)
  have hko:=q2.cp hv hD hC hlk
  obtain ⟨sb,hsb⟩:∃ b,Jx L=Value.string b:=⟨_,rfl⟩
  rw [hsb] at q1
  have gk:(ZG ky)[XG D k]?=some (.v (.string sb)):=by simp [ZG,q1]
  refine WC ?_
  (refine Cn (an @g1 (an @hcl (an @gk @Jz))) ?_;(repeat clear hK K);repeat refine kq fun K hK=>?_)
  refine BC (fun G3=>HS (Y9 X D (Q.map Int.ofNat) (Y6 (XG D) X.length) dv) ⟨9,1,true,ZG (ky.set k (.string sb))⟩ X.length G3 tc vc/\TA X nw Q Q.length G3 tc/\TB X nw Q Q.length G3 vc) ?_ ?_
  ·exact ⟨hH.setK _,hT.set1 _,hTB.set1 _⟩
  rintro G3 ⟨hH3,hT3,hTB3⟩
  simp only
  refine WD ?_
  refine hK _ (k+1,G3,ky.set k (.string sb)) ⟨by simp only;omega,by simp only;rw [List.length_set];exact hkyl,?_,hH3,hT3,hTB3⟩ (by simp only;omega) ?_
  rotate_left
  ·exact WE
  intro s hs
  simp only at hs ⊢
  by_cases e:s=k
  ·subst e
   exact ⟨L,by rw [hsb,gEc (by omega)],hko⟩
  obtain ⟨M,q1,q2⟩:=hkys s (by omega)
  exact ⟨M,by rw [gE5 (Ne.symm e)];exact q1,q2⟩
 rw [hek] at gD ⊢
 have d3:((k:Int) == (k:Int))=true:=by simp
 simp only [d3]
 obtain ⟨j',hj',hQj⟩:=List.getElem_of_mem ((hQ.2.1 k).2 ⟨hlk,hek⟩)
 obtain ⟨x,w,tx1,tx2,tx3,tx4⟩:=hT.2.2 j' k hj' (by rw [gE1 hj',hQj])
 obtain ⟨m,V,ty1,ty2,ty3,ty4⟩:=hTB.2.2 j' k hj' (by rw [gE1 hj',hQj])
 have gW:=Am (show nw[k]?=some (nw.getD k 0) from by rw [gE2,gE1 (by omega)];rfl)
 have hVl:V.length<=2000:=by
  have h:=Da (m:=(List.range 1026).map Int.ofNat) ty4.nd (fun e he=>by
   obtain ⟨p,hp,rfl⟩:=List.mem_map.1 he
   obtain ⟨_,_,_,i,hi,ho⟩:=ty4.ob p hp
   have hr3:=Uv hv ((ty4.ex p.1 i hi).1 ⟨p,hp,rfl,ho⟩)
   exact List.mem_map.2 ⟨p.1.toNat,by rw [List.mem_range];omega,by simp only [Int.ofNat_eq_natCast];omega⟩)
  rw [List.length_map,List.length_map,List.length_range] at h
  omega
 have hkm:=fun VL h1 h2=>KeyOf.mk2 (VL:=VL) hv hN hn tx4 ty4 h1 h2
 generalize nw.getD k 0=x0 at *
 refine WB ?_
 (refine Wu (an @gW (an @A4 @hNl)) ?_;(repeat clear hK K);repeat refine kq fun K hK=>?_)
 (refine Ai rfl ?_;intro K1 hK1;refine Di (f:=78) (ids:=[]) (R:=fun r o=>(∃ VL:List (Int × Nat),WI (VL.map fun q:Int × Nat=>q.1)/\(∀ q,q∈VL↔∃ p∈V,q=(p.1,p.2.2))/\r=.a (.c (.v (Jx (FM x0 w VL)))))/\Pre G o/\o.all Cd=true) rfl rfl (by simp only [go_sem]) (by kernel_rfl) (SM G 5 3 4 X.length k x m w x0 tc vc V hH.h4 hH.h2 hH.h3 hT.1 hTB.1 (by omega) hlk tx1 tx3 tx4.1 ty1 ty3 ty4.nd (fun p hp=>by obtain ⟨_,a2,a3,_⟩:=ty4.ob p hp;exact ⟨a2,a3⟩) hVl hH.ok) (fun r outs h=>Hz h.2.2) ?_)
 rintro r G2 ⟨⟨VL,hV1,hV2,rfl⟩,hP2,hok2⟩
 have hko:=hkm VL hV1 hV2
 obtain ⟨L,hL⟩:∃ L,FM x0 w VL=L:=⟨_,rfl⟩
 rw [hL] at hko ⊢
 obtain ⟨sb,hsb⟩:∃ b,Jx L=Value.string b:=⟨_,rfl⟩
 rw [hsb]
 (simp only [go_sem];refine hK1 _ ?_;clear hK1 K1)
 have hH2:=hH.pre hP2 hok2
 have g2:=hP2.at g1
 (refine Cn (an @g2 (an @hcl @Jz)) ?_;(repeat clear hK K);repeat refine kq fun K hK=>?_)
 refine BC (fun G3=>HS (Y9 X D (Q.map Int.ofNat) (Y6 (XG D) X.length) dv) ⟨9,1,true,ZG (ky.set k (.string sb))⟩ X.length G3 tc vc/\TA X nw Q Q.length G3 tc/\TB X nw Q Q.length G3 vc) ?_ ?_
 ·exact ⟨hH2.setK _,(hT.pre hP2).set1 _,(hTB.pre hP2).set1 _⟩
 rintro G3 ⟨hH3,hT3,hTB3⟩
 simp only
 refine WD ?_
 refine hK _ (k+1,G3,ky.set k (.string sb)) ⟨by simp only;omega,by simp only;rw [List.length_set];exact hkyl,?_,hH3,hT3,hTB3⟩ (by simp only;omega) ?_
 rotate_left
 ·exact WE
 intro s hs
 simp only at hs ⊢
 by_cases e:s=k
 ·subst e
  exact ⟨L,by rw [hsb,gEc (by omega)],hko⟩
 obtain ⟨M,q1,q2⟩:=hkys s (by omega)
 exact ⟨M,by rw [gE5 (Ne.symm e)];exact q1,q2⟩
theorem WkC.uniq {R:List (List Ar)} {c d:List Int} (h1:WkC R c) (h2:WkC R d):c=d:=by
 obtain ⟨B,b1,b2⟩:=h1
 obtain ⟨B',b3,b4⟩:=h2
 have e:=b1.uniq b3
 subst e
 exact b2.uniq b4
theorem YA {A R:List (List Ar)} (hA:Bv A=true) (hv:Bv R=true) (hn:A.length+R.length<=100) (ht:Bw A+Bw R<=1000):Bv (Eo A R)=true:=NH (.inr hA) hv (by show A.length+R.length<=16384;omega) (by show Bw A+Bw R<=262144;omega)
theorem YG {c:List Int} {i:Nat} (h:i<c.length):(Ab c)[i]?=some (.v (.int .i64 (c.getD i 0))):=Am (by rw [gE2,gE1 h];rfl)
set_option maxHeartbeats 2000000 in
theorem Ux (R:List (List Ar)) (hv:Bv R=true) (hn:R.length<=64) (hr:∀ r∈R,r.length<=1000000):FC Tryz.prog 20 [B7 R] [] (fun r o=>∃ c,WkC R c/\Nrm R.length c/\o=[]/\r=As c):=by
 refine A6 Tryz.func20 rfl (by rw [Tryz.ntmps20];simp) ?_
 rw [Tryz.ntmps20]
 simp only [Bf,B7]
 have hlo:BE R=true:=gEg (gE4 hv).1
 have hbL:L6 [R]=R:=Q4 R
 (refine Wt ?_;(repeat clear hK K);repeat refine kq fun K hK=>?_)
 (refine Wy (CD R (by omega) (fun r h=>by have:=hr r h;omega)) ?_;intro K1 hK1)
 rintro _ _ ⟨rfl,rfl⟩
 (refine Wz ?_;clear hK1 K1)
 rw [hv]
 (refine Wu @Bool.not_true ?_;(repeat clear hK K);repeat refine kq fun K hK=>?_)
 refine WC ?_
 (refine Wt ?_;(repeat clear hK K);repeat refine kq fun K hK=>?_)
 have hf:(if 1<=(Ya [R]).length then C.t 1 ((Ya [R]).take 1) else C.u)=C.t 1 (Ya [R]):=rfl
 (refine BS (Bg (r:=⟨25,1,true,[.t 1 (Ah R)]⟩) 1 (Ya [R]) rfl ⟨.inl rfl,trivial⟩ (show 0<(1:Nat) by omega)) ?_;simp only [ST.frz,A0.frz,AV.frz,C.frz,Nat.le_refl,List.set_cons_zero,List.set_cons_succ,go_sem,hf])
 have hns:=SI [R] (by simp) (by simp) (by simpa using hv) (by simpa using hr) (by have:=(gE4 hlo).2.1;simpa using this) (by have:=(gE4 hlo).2.2.1;simpa using this)
 rw [hbL] at hns
 (refine Wy hns ?_;intro K1 hK1)
 rintro _ _ ⟨rfl,D,Q,B,_,hD,hB,hQ,rfl⟩
 simp only [Y9]
 (refine Wz ?_;clear hK1 K1)
 (refine Wt ?_;(repeat clear hK K);repeat refine kq fun K hK=>?_)
 (refine Ai rfl ?_;intro K1 hK1;refine AH (ids:=[]) [2] (T6 R D Q B hv hn hr hD hQ hB) rfl rfl (by simp only [go_sem]) (by first | assumption | kernel_rfl) rfl rfl (by (simp only [List.map_append,List.append_nil,go_sem]) <;> rfl) (by (simp only [VS,Y9,go_sem]) <;> rfl) ?_ ?_)
 ·rintro _ _ ⟨c,_,_,rfl,rfl⟩;rfl
 rintro _ _ ⟨c,hc,hN,rfl,rfl⟩
 simp only [Y9]
 (refine Wz ?_;clear hK1 K1)
 (refine Wt ?_;(repeat clear hK K);repeat refine kq fun K hK=>?_)
 ((try refine Av ?_);(try simp only [Ae,AF]);refine B6 (A9 [] rfl rfl) ?_;(try simp only [List.set_nil,List.take_nil,List.take_zero,List.map_append,go_sem]);((try refine Av ?_);(try refine Aa ?_);(try simp only [Ae,AF]);refine Bj (by first | exact .inl rfl | exact .inr rfl) rfl ?_;simp only [VU,Dy,Du,DL,Tryz.results20,go_sem,true_and,and_true,As]))
 exact ⟨c,hc,hN,rfl⟩
noncomputable def EqW (A R:List (List Ar)):Bool:=@decide (Bv A=true/\Bv R=true/\∃ c,WkC (Eo A R) c/\c.getD 0 0=c.getD A.length 0) (Classical.propDecidable _)
theorem EqW.of {A R:List (List Ar)} (hA:Bv A=true) (hv:Bv R=true) {c:List Int} (hc:WkC (Eo A R) c):decide (c.getD 0 0=c.getD A.length 0)=EqW A R:=by
 by_cases h:c.getD 0 0=c.getD A.length 0
 ·rw [gEg h]
  exact (@decide_eq_true _ (Classical.propDecidable _) ⟨hA,hv,c,hc,h⟩).symm
 rw [decide_eq_false h]
 refine (@decide_eq_false _ (Classical.propDecidable _) ?_).symm
 rintro ⟨_,_,d,hd,q⟩
 obtain rfl:=hc.uniq hd
 exact h q
set_option maxHeartbeats 4000000 in
theorem Zs (A R:List (List Ar)) (hA:Bv A=true) (hv:Bv R=true) (hn:A.length+R.length<=64) (ht:Bw A+Bw R<=1000) (hrA:∀ r∈A,r.length<=1000000) (hr:∀ r∈R,r.length<=1000000):FC Tryz.prog 16 [B7 A,B7 R] [] (fun r o=>o=[]/\r=.b (EqW A R)):=by
 refine A6 Tryz.func16 rfl (by rw [Tryz.ntmps16];simp) ?_
 rw [Tryz.ntmps16]
 simp only [Bf,B7]
 have hlA:BE A=true:=gEg (gE4 hA).1
 have hz:=YA hA hv (by omega) ht
 have hzn:(Eo A R).length<=64:=by rw [CF];exact hn
 have hzr:=Zm hrA hr
 have hA1:1<=A.length:=(gE4 hlA).1
 have hR1:1<=R.length:=(gE4 (gEg (gE4 hv).1:BE R=true)).1
 have hbL:L6 [A,R]=Eo A R:=by show Eo (Eo [] A) R=_;rw [Q4]
 (refine Wt ?_;(repeat clear hK K);repeat refine kq fun K hK=>?_)
 (refine Wy (CD A (by omega) (fun r h=>by have:=hrA r h;omega)) ?_;intro K1 hK1)
 rintro _ _ ⟨rfl,rfl⟩
 (refine Wz ?_;clear hK1 K1)
 rw [hA]
 (refine Wu @Bool.not_true ?_;(repeat clear hK K);repeat refine kq fun K hK=>?_)
 (refine BV rfl rfl (by simp only [go_sem] <;> rfl) ?_;intro K1 hK1;refine (Bb (ids:=[]) (CD R (by omega) (fun r h=>by have:=hr r h;omega)) rfl rfl (by simp only [go_sem]) (by kernel_rfl) (by (simp only [List.append_nil,go_sem]) <;> rfl) ?_).stp)
 rintro _ _ ⟨rfl,rfl⟩
 (refine Wz ?_;clear hK1 K1)
 rw [hv]
 (refine Wu @Bool.not_true ?_;(repeat clear hK K);repeat refine kq fun K hK=>?_)
 refine WC ?_
 (refine Wt ?_;(repeat clear hK K);repeat refine kq fun K hK=>?_)
 have hf:(if 2<=(Ya [A,R]).length then C.t 1 ((Ya [A,R]).take 2) else C.u)=C.t 1 (Ya [A,R]):=rfl
 (refine BS (Bg (r:=⟨25,1,true,[.t 1 (Ah A),.t 1 (Ah R)]⟩) 2 (Ya [A,R]) rfl ⟨.inl rfl,.inl rfl,trivial⟩ (show 0<(1:Nat) by omega)) ?_;simp only [ST.frz,A0.frz,AV.frz,C.frz,Nat.le_refl,List.set_cons_zero,List.set_cons_succ,go_sem,hf])
 have hns:=SI [A,R] (by simp) (by simp) (by simp [hA,hv]) (by simp only [List.mem_cons,List.not_mem_nil,or_false,forall_eq_or_imp,forall_eq];exact ⟨hrA,hr⟩) (by show A.length+(R.length+0)<=16384;omega) (by show Bw A+(Bw R+0)<=262144;omega)
 rw [hbL] at hns
 (refine Wy hns ?_;intro K1 hK1)
 rintro _ _ ⟨rfl,D,Q,B,_,hD,hB,hQ,rfl⟩
 simp only [Y9]
 (refine Wz ?_;clear hK1 K1)
 (refine Wt ?_;(repeat clear hK K);repeat refine kq fun K hK=>?_)
 (refine Ai rfl ?_;intro K1 hK1;refine AH (ids:=[]) [3] (T6 (Eo A R) D Q B hz hzn hzr hD hQ hB) rfl rfl (by simp only [go_sem]) (by first | assumption | kernel_rfl) rfl rfl (by (simp only [List.map_append,List.append_nil,go_sem]) <;> rfl) (by (simp only [VS,Y9,go_sem]) <;> rfl) ?_ ?_)
 ·rintro _ _ ⟨c,_,_,rfl,rfl⟩;rfl
 rintro _ _ ⟨c,hc,hN,rfl,rfl⟩
 have hcl:c.length=A.length+R.length:=by rw [hN.len,CF]
 simp only [Y9]
 (refine Wz ?_;clear hK1 K1)
 (refine Wt ?_;(repeat clear hK K);repeat refine kq fun K hK=>?_)
 (refine Ac 10 [(0,0),(1,0),(2,1),(3,0),(4,0),(5,1),(6,0),(7,0),(8,1),(9,0),(10,2)] (by kernel_rfl) (by kernel_rfl) (by intro c st h;simp [Ae,AF,VT] at h) ?_)
 (refine Wq (an @Int.toNat_zero (an @A3 (an @A4 (an (YG (c:=c) (i:=0) (by omega)) (YG (c:=c) (i:=A.length) (by omega)))))) ?_;repeat clear hK K)
 have he:(c.getD 0 0 == c.getD A.length 0)=EqW A R:=EqW.of hA hv hc
 simp only [he]
 exact Lq [] Tryz.results16
theorem YZ (S:List (List Ar)) (c:List Int):∀ k,Xl S (Xk S c) k=Xl S c (k+1)
 | 0=>rfl
 | k+1=>by rw [Xl,YZ S c k];rfl
theorem Zt (S:List (List Ar)):∀ (m:Nat) (c:List Int),Nrm S.length c->S.length<=F9 S.length c+m->∃ k,Xk S (Xl S c k)=Xl S c k:=by
 intro m
 induction m with
 | zero=>
  intro c hN hm
  refine ⟨0,?_⟩
  by_cases e:Xk S c=c
  ·exact e
  have h1:=U4 hN e
  have h2:=KK S.length (Xk S c)
  omega
 | succ m ih=>
  intro c hN hm
  by_cases e:Xk S c=c
  ·exact ⟨0,e⟩
  have h1:=U4 hN e
  obtain ⟨k,hk⟩:=ih (Xk S c) (NB S c) (by omega)
  rw [YZ] at hk
  exact ⟨k+1,hk⟩
theorem WkC.ex {R:List (List Ar)} (hv:Bv R=true) (hn:R.length<=100):∃ c,WkC R c:=by
 have hl:=(Ht hv hn).1
 have h1:1<=R.length:=(gE4 hv).1.1
 obtain ⟨B,hB⟩:∃ B,DvL R B:=by
  refine ⟨(List.range R.length).map fun s=>@decide (Dv R s) (Classical.propDecidable _),by simp,fun s hs=>?_⟩
  rw [gE2,List.getElem?_map,List.getElem?_range hs]
  exact @decide_eq_true_iff _ (Classical.propDecidable _)
 obtain ⟨k,hk⟩:=Zt (C9 R) R.length (Xv B R.length) (by rw [hl];exact NC _ h1) (by omega)
 exact ⟨_,B,hB,k,rfl,hk⟩
theorem EqW.yes {A R:List (List Ar)} (hA:Bv A=true) (hv:Bv R=true) (hn:A.length+R.length<=100) (ht:Bw A+Bw R<=1000) (h:∀ d,WkC (Eo A R) d->d.getD 0 0=d.getD A.length 0):EqW A R=true:=by
 obtain ⟨d,hd⟩:=WkC.ex (YA hA hv hn ht) (by rw [CF];exact hn)
 exact @decide_eq_true _ (Classical.propDecidable _) ⟨hA,hv,d,hd,h d hd⟩
def AnW {α:Type} (A:List (List Ar)) (kA:Nat->α) (B:List (List Ar)) (kB:Nat->α) (s t:Nat):Prop:=
 (Dv A s->Dv B t)/\∀ e u,WA A s e u->∃ v,WA B t e v/\kB v=kA u
section
variable {α : Type} {A B C : List (List Ar)} {kA kB kC : Nat -> α} {s t r : Nat}
theorem AnW.trans (h1 : AnW A kA B kB s t) (h2 : AnW B kB C kC t r) : AnW A kA C kC s r :=
 ⟨fun d => h2.1 (h1.1 d), fun e u w => by
  obtain ⟨v, w2, e2⟩ := h1.2 e u w
  obtain ⟨x, w3, e3⟩ := h2.2 e v w2
  exact ⟨x, w3, e3.trans e2⟩⟩
theorem MtW.of (hA:Bv A=true) (hB:Bv B=true) (h:∀ s t,s<A.length->t<B.length->kA s=kB t->AnW A kA B kB s t):MtW A kA B kB:=by
 intro s t hs ht e
 obtain ⟨h1,h2⟩:=h s t hs ht e
 refine ⟨h1,fun a ha=>?_⟩
 obtain ⟨u,hu,hw,e1⟩:=(EK hA hs).1 ha
 obtain ⟨v,hv,e2⟩:=h2 _ _ hw
 exact ⟨(a.1,(v:Int)),(EK hB ht).2 ⟨v,hv.lt hB ht,hv,rfl⟩,rfl,by rw [e1];simpa using e2⟩
end
/-! A canonical form. -/
structure CnX (Y X:List (List Ar)) (o:Nat->Nat):Prop where
 z:0<X.length
 o0:o 0=0
 bd:∀ j,j<X.length->o j<Y.length
 inj:∀ i j,i<X.length->j<X.length->o i=o j->i=j
 up:∀ j (a:Ar),j<X.length->a∈Y.getD (o j) []->∃ i:Nat,i<X.length/\(a.1,(i:Int))∈X.getD j []/\o i=a.2.toNat
 dn:∀ j (a:Ar),j<X.length->a∈X.getD j []->∃ i:Nat,i<X.length/\a.2=(i:Int)/\(a.1,(o i:Int))∈Y.getD (o j) []
section
variable {X Y : List (List Ar)} {o : Nat -> Nat}
end
/-! What stands for all states that a canonical form keeps. -/
def MtS {α:Type} (A:List (List Ar)) (kA:Nat->α) (B:List (List Ar)) (kB:Nat->α):Prop:=
 ∀ s t,s<A.length->t<B.length->kA s=kB t->∀ a∈A.getD s [],∃ b∈B.getD t [],b.1=a.1/\kB b.2.toNat=kA a.2.toNat
section
variable {α : Type} {A B C : List (List Ar)} {kA kB kC : Nat -> α} {s t r : Nat}
theorem MtS.rc (h:MtS A kA B kB) (hA:Bv A=true) (hB:Bv B=true) (hs:s<A.length) (ht:t<B.length) (e:kA s=kB t) {u:Nat} (hr:Rc (WP true A) s u):u<A.length/\∃ v,v<B.length/\kA u=kB v/\Rc (WP true B) t v:=by
 induction hr with
 | refl=>exact ⟨hs,t,ht,e,.refl _⟩
 | tail _ hw ih=>
  obtain ⟨i1,v,i2,i3,i4⟩:=ih
  have ha:=(Gs hA).1 hw
  obtain ⟨b,hb,e1,e2⟩:=h _ _ i1 i2 i3 _ ha
  have hbl:=EJ hB i2 hb
  have hal:=EJ hA i1 ha
  simp only [Int.toNat_natCast] at e1 e2 hal
  refine ⟨hal.2.2.2,b.2.toNat,hbl.2.2.2,e2.symm,i4.tail ((Gs hB).2 ?_)⟩
  obtain ⟨x,y⟩:=b
  simp only at e1 hbl ⊢
  subst e1
  rw [Int.toNat_of_nonneg hbl.2.2.1]
  exact hb
theorem MtS.toW (h:MtS A kA B kB) (hA:Bv A=true) (hB:Bv B=true):MtW A kA B kB:=by
 refine MtW.of hA hB fun s t hs ht e=>⟨fun ⟨g,hg,w,hw,hwg⟩=>?_,fun x u hw=>?_⟩
 rotate_left
 ·rcases hw with ⟨h0,hr⟩ | ⟨h0,p,hp,a,ha,h1,h2⟩
  ·obtain ⟨_,v,_,v2,v3⟩:=h.rc hA hB hs ht e hr
   exact ⟨v,.inl ⟨h0,v3⟩,v2.symm⟩
  obtain ⟨pl,q,ql,eq,hq⟩:=h.rc hA hB hs ht e hp
  obtain ⟨b,hb,e1,e2⟩:=h _ _ pl ql eq _ ha
  obtain ⟨_,v,_,v2,v3⟩:=h.rc hA hB (EJ hA pl ha).2.2.2 (EJ hB ql hb).2.2.2 e2.symm h2
  exact ⟨v,.inr ⟨h0,q,hq,b,hb,e1.trans h1,v3⟩,v2.symm⟩
 obtain ⟨gl,g2,g2l,eg,hg2⟩:=h.rc hA hB hs ht e hg
 have hd:Dv B g2:=by
  refine cy hB (P:=fun y=>kA g=kB y) (fun y hy ey=>?_) _ g2 g2l eg (Nat.le_refl _)
  have ha:=(Gs hA).1 hw
  obtain ⟨b,hb,e1,e2⟩:=h _ _ gl hy ey _ ha
  have hbl:=EJ hB hy hb
  have hal:=EJ hA gl ha
  simp only [Int.toNat_natCast] at e1 e2 hal
  obtain ⟨_,v,v1,v2,v3⟩:=h.rc hA hB hal.2.2.2 hbl.2.2.2 e2.symm hwg
  refine ⟨b.2.toNat,v,(Gs hB).2 ?_,v3,v1,v2⟩
  obtain ⟨x,z⟩:=b
  simp only at e1 hbl ⊢
  subst e1
  rw [Int.toNat_of_nonneg hbl.2.2.1]
  exact hb
 obtain ⟨g3,q1,q2⟩:=hd
 exact ⟨g3,hg2.trans q1,q2⟩
theorem MtK.toW (h:MtK A kA B kB) (hA:Bv A=true) (hB:Bv B=true):MtW A kA B kB:=by
 have hEA:=Cw true (gEg (gE4 hA).1:BE A=true)
 have hEB:=Cw true (gEg (gE4 hB).1:BE B=true)
 have htau:∀ {s t u},s<A.length->t<B.length->kA s=kB t->Rc (WP true A) s u->∃ v,Rc (WP true B) t v/\kB v=kA u:=fun hs ht e hr=>by
  obtain ⟨b,hb,e1,e2⟩:=(h _ _ hs ht e).2 (0,(_:Int)) ((Hp hA hs).2 (.inl ⟨rfl,_,rfl,hr⟩))
  rcases (Hp hB ht).1 hb with ⟨_,v,hv,hr2⟩ | ⟨h0,_⟩
  ·exact ⟨v,hr2,by rw [hv] at e2;simpa using e2⟩
  exact absurd e1 h0
 refine MtW.of hA hB fun s t hs ht e=>⟨(h s t hs ht e).1,fun x u hw=>?_⟩
 rcases hw with ⟨h0,hr⟩ | ⟨h0,p,hp,a,ha,h1,h2⟩
 ·obtain ⟨v,v1,v2⟩:=htau hs ht e hr
  exact ⟨v,.inl ⟨h0,v1⟩,v2⟩
 obtain ⟨b,hb,e1,e2⟩:=(h _ _ hs ht e).2 a ((Hp hA hs).2 (.inr ⟨by rw [h1];exact h0,p,hp,ha⟩))
 have hal:=EJ hA (hp.lt hs hEA) ha
 rcases (Hp hB ht).1 hb with ⟨h9,_⟩ | ⟨_,q,hq,hb2⟩
 ·exact absurd (h1 ▸ e1 ▸ h9) h0
 have hbl:=EJ hB (hq.lt ht hEB) hb2
 obtain ⟨v,v1,v2⟩:=htau hal.2.2.2 hbl.2.2.2 e2.symm h2
 exact ⟨v,.inr ⟨h0,q,hq,b,hb2,e1.trans h1,v1⟩,v2⟩
end
theorem Zv {α:Type} {A R:List (List Ar)} {kA kR:Nat->α} (hA:Bv A=true) (hR:Bv R=true) (hn:A.length+R.length<=100) (ht:Bw A+Bw R<=1000) (h1:MtW A kA A kA) (h2:MtW A kA R kR) (h3:MtW R kR A kA) (h4:MtW R kR R kR) (h0:kA 0=kR 0):EqW A R=true:=by
 have hA1:1<=A.length:=(gE4 hA).1.1
 have hR1:1<=R.length:=(gE4 hR).1.1
 refine EqW.yes hA hR hn ht fun d hd=>?_
 have hz:=YA hA hR hn ht
 have hb:=MtW.both hA hR hn hz h1 h2 h3 h4
 refine hb.le hz (by rw [CF];exact hn) hd (by rw [CF];omega) (by rw [CF];omega) ?_
 unfold ZF
 rw [if_pos (show 0<A.length by omega),if_neg (by omega),Nat.sub_self,h0]
theorem cZ {R:List (List Ar)} {c:List Int} {B:List Bool} (hv:Bv R=true) (hn:R.length<=50) (ht:Bw R<=500) (hk0:MtW R (fun s=>c.getD s 0) R (fun s=>c.getD s 0)) (hC:Zy c R.length=true) (hB:DvL R B):∃ X,X=(BT (qR R c B)).1/\Bv X=true/\X.length<=R.length/\Bw X<=Bw R+R.length/\∃ f kX:Nat->Nat,MtW R f R f/\MtW R f X kX/\MtW X kX R f/\MtW X kX X kX/\f 0=kX 0:=by
 have hlo:BE R=true:=gEg (gE4 hv).1
 obtain ⟨b1,b2,b3⟩:=bC (B:=B) hlo hC
 have hn1:1<=R.length:=(gE4 hlo).1
 have hno:=Y2 hC
 have hm1:1<=bZ c:=by have:=(hno.2.2.1 0 hn1).1;omega
 have hlq:BE (qR R c B)=true:=gEg ⟨by omega,by show (qR R c B).length<=16384;omega,by show Bw (qR R c B)<=262144;omega,b2⟩
 have hq:=dl hv hC hB
 have hX:=B0 hlq
 have htX:=B2 hlq
 have hlX:=(OD (R:=qR R c B) (B:=Bw (qR R c B)) (by omega) (fun r hr a ha=>by have:=b2 r hr a ha;exact ⟨this.2.2.1,this.2.2.2⟩) (fun r hr=>Q6 r hr)).1
 obtain ⟨a1,a2,_⟩:=Zl (Q:=qR R c B) (by omega) (fun r hr a ha=>by have:=b2 r hr a ha;exact ⟨this.2.2.1,this.2.2.2⟩)
 have hf0:=aO hC hn1
 generalize YO (qR R c B)=kX at *
 generalize (BT (qR R c B)).1=X at *
 have hcl:∀ s,s<R.length->c.getD s 0=(bY c s:Int):=fun s hs=>by rw [gE2,(hno.2.2.1 s hs).2];rfl
 have hk:MtW R (bY c) R (bY c):=fun s t hs ht e=>by
  obtain ⟨q1,q2⟩:=hk0 s t hs ht (by simp only;rw [hcl s hs,hcl t ht,e])
  refine ⟨q1,fun a ha=>?_⟩
  obtain ⟨b,hb,e1,e2⟩:=q2 a ha
  refine ⟨b,hb,e1,?_⟩
  have e3:c.getD b.2.toNat 0=c.getD a.2.toNat 0:=e2
  unfold bY
  rw [e3]
 exact ⟨X,rfl,hX,by omega,by omega,bY c,kX,hk,hq.mt1W hv hX,hq.mt2W hv hX hk,hq.mt3W,by rw [a2,hf0]⟩
theorem aE {R:List (List Ar)} {c:List Int} (hf:Xk R c=c):MtS R (fun s=>c.getD s 0) R (fun s=>c.getD s 0):=by
 intro s t hs ht h a ha
 have e:=(Cx (Xj R c) R.length).eq s t hs ht
 have e0:(Xh (Xj R c) R.length).1=c:=hf
 rw [e0] at e
 have e2:=congrArg Prod.snd (e.1 h)
 obtain ⟨c1,-⟩:=Se.1 e2
 obtain ⟨b,hb,hq⟩:=List.any_eq_true.1 (List.all_eq_true.1 c1 a ha)
 simp only [Bool.and_eq_true,beq_iff_eq] at hq
 exact ⟨b,hb,hq.1,hq.2⟩
theorem MtS.toK {α:Type} {A B:List (List Ar)} {kA kB:Nat->α} (h:MtS A kA B kB) (hA:Bv A=true) (hB:Bv B=true):MtK A kA B kB:=by
 have hW:=h.toW hA hB
 intro s t hs ht e
 refine ⟨(hW s t hs ht e).1,fun a ha=>?_⟩
 rcases (Hp hA hs).1 ha with ⟨h0,u,hu,hr⟩ | ⟨h0,p,hp,ha2⟩
 ·obtain ⟨_,v,_,v2,v3⟩:=h.rc hA hB hs ht e hr
  exact ⟨(a.1,(v:Int)),(Hp hB ht).2 (.inl ⟨h0,v,rfl,v3⟩),rfl,by rw [hu];simpa using v2.symm⟩
 obtain ⟨pl,q,ql,eq,hq⟩:=h.rc hA hB hs ht e hp
 obtain ⟨b,hb,e1,e2⟩:=h _ _ pl ql eq _ ha2
 exact ⟨b,(Hp hB ht).2 (.inr ⟨by rw [e1];exact h0,q,hq,hb⟩),e1,e2⟩
end Go.Proofs.YtjijjfkalheokaaGreatDoor
namespace Go.Proofs.YtjijjfkalheokaaGreatDoor
set_option linter.unusedVariables false
set_option linter.unusedSimpArgs false
open Go.RowKit Go.Shelf Go.Sort
set_option maxRecDepth 100000

set_option maxHeartbeats 1000000 in
theorem cN (f : FuncId) (hf : Bh Tryz.prog f = true) (hcmp : ∀ a b : Ar, FC Tryz.prog f [.a (.g [.v (.int .i64 a.1), .v (.int .i64 a.2)]), .a (.g [.v (.int .i64 b.1), .v (.int .i64 b.2)])] [] (fun r o => o = [] /\ r = .i (Gc a b))) (L : List Ar) (hsz : L.length <= 100000000) :
  FC Tryz.prog 115 [.a (.c (.s 0 L.length)), .a (.c (.f f []))] [.r ⟨106, 2, true, Ax L⟩]
   (fun r o => r = .u /\ ∃ L' : List Ar, L'.Perm L /\ L'.Pairwise (fun a b => WK b a = false) /\ o = [.r ⟨106, 2, true, Ax L'⟩]) := by
 intro g w vals hr hargs
 obtain ⟨hlen, hargs⟩ := hargs
 obtain ⟨v1, e1, b1, b2, A, rfl, b4, b5⟩ := hargs 0 _ rfl
 obtain ⟨v2, e2, c1, c2⟩ := hargs 1 _ rfl
 have hv2 : v2 = .func (.func f) #[] #[] := by rw [c2]; simp [Vz]
 subst hv2
 have hvals : vals = [.slice A L.length (g.κ 0), .func (.func f) #[] #[]] := by
  match vals, hlen with
  | [a, b], _ => simp at e1 e2; simp [e1, e2]
 subst hvals
 rcases hr.row 0 _ rfl with ⟨h0, hnil⟩ | ⟨h0, hne, arr, ha, hle, hs, hmx, hcells⟩
 ·have hL0 : L = [] := by
   have : (Ax L).length = 0 := by have h : Ax L = [] := hnil; rw [h]; rfl
   rw [Ap] at this
   exact List.length_eq_zero_iff.1 (by omega)
  subst hL0
  refine (AnyF.slices_SortFunc_none Tryz.sortArrows A (g.κ 0) (.func (.func f) #[] #[]) w).mono ?_
  rintro e' w' ⟨rfl, rfl⟩
  exact ⟨.tuple #[], .u, _, g, rfl, ⟨rfl, [], List.Perm.refl _, List.Pairwise.nil, rfl⟩, hr, ⟨Nat.le_refl _, Ext.refl _ _⟩, fun ℓ hl => .inl ⟨ℓ, hl, rfl⟩, trivial, Fp.refl _ _⟩
 have hL0 : L ≠ [] := fun e => by subst e; exact hne rfl rfl
 have x0 : 0 < L.length := List.length_pos_iff.2 hL0
 rw [b4 h0] at *
 have hblk : g.γ (.ob 0) < w.heap.size := (Array.getElem?_eq_some_iff.1 ha).1
 have hle' : L.length * 2 <= arr.size := by simpa [Ap] using hle
 have hfl := Dc X2 2 (fun _ => rfl) L
 have hget : ∀ j, j < L.length * 2 -> arr[j]? = (L.flatMap X2)[j]? := by
  intro j hj
  obtain ⟨v, hv⟩ : ∃ v, (L.flatMap X2)[j]? = some v := ⟨_, gE1 (by rw [hfl]; exact hj)⟩
  obtain ⟨u, u1, u2⟩ := hcells j (.v v) (by rw [Gm, List.getElem?_map, hv]; rfl)
  have hu : u = v := u2
  rw [u1, hv, hu]
 have hlays : CmpLays Tryz.prog f #[] X2 2 Gc (g.γ (.ob 0)) 0 L.toArray.size w := by
  intro m os dk _ x y
  have hoth : ∀ k, k < w.heap.size -> ¬ Ow [.r ⟨106, 2, true, Ax L⟩] g k -> (sortWorldK X2 2 w (g.γ (.ob 0)) 0 m dk os).heap[k]? = w.heap[k]? := by
   intro k hk hn
   have hn2 : k ≠ g.γ (.ob 0) := fun e => hn (.inr ⟨.ob 0, X3.2 ⟨rfl, h0⟩, e.symm⟩)
   unfold sortWorldK putRowK putRow mapBlock Sort.grow Sort.ahead
   simp only
   rw [Array.getElem?_append_left (by simpa using hk), Array.getElem?_modify, if_neg (Ne.symm hn2)]
  generalize hW : sortWorldK X2 2 w (g.γ (.ob 0)) 0 m dk os = W at hoth
  have hsz' : w.heap.size <= W.heap.size := by rw [<- hW]; simp [sortWorldK, putRowK, putRow, mapBlock, Sort.grow, Sort.ahead]
  have hHR : HR ⟨g.γ, g.κ, fun _ => False⟩ [] W := ⟨fun b hb => hb.elim, fun ℓ hl => absurd hl (UF _ ℓ), fun ℓ _ hl => absurd hl (UF _ ℓ), fun id r h => by simp at h, fun id r h => by simp at h, hr.gl.keep hsz' hoth (fun k _ hk => hk.elim (fun h => h.elim) (fun ⟨ℓ, hl, _⟩ => absurd hl (UF _ ℓ)))⟩
  have hA : GA ⟨g.γ, g.κ, fun _ => False⟩ [] W [.a (.g [.v (.int .i64 x.1), .v (.int .i64 x.2)]), .a (.g [.v (.int .i64 y.1), .v (.int .i64 y.2)])] [.agg #[.int .i64 x.1, .int .i64 x.2], .agg #[.int .i64 y.1, .int .i64 y.2]] := by
   refine ⟨rfl, fun i a hi => ?_⟩
   have ag : ∀ z : Ar, A0R (CR ⟨g.γ, g.κ, fun _ => False⟩ [] W) (.g [.v (.int .i64 z.1), .v (.int .i64 z.2)]) (.agg #[.int .i64 z.1, .int .i64 z.2]) := fun z => ⟨[.int .i64 z.1, .int .i64 z.2], rfl, rfl, fun q c hq => by
    match q, hq with
    | 0, hq => simp at hq; subst hq; exact ⟨_, rfl, rfl⟩
    | 1, hq => simp at hq; subst hq; exact ⟨_, rfl, rfl⟩
    | q + 2, hq => simp at hq⟩
   match i, hi with
   | 0, hi => cases hi; exact ⟨_, rfl, ag x⟩
   | 1, hi => cases hi; exact ⟨_, rfl, ag y⟩
   | i + 2, hi => simp at hi
  refine Calls.mono (hcmp x y _ _ _ hHR hA) ?_
  rintro e' w' ⟨v, r, outs, g', rfl, ⟨rfl, rfl⟩, _, _, _, hv, hfp⟩
  exact ⟨by rw [show v = _ from hv], Iu (hfp.mono fun k _ ⟨ℓ, hl, _⟩ => absurd hl (UF _ ℓ))⟩
 have hH : HoldsK X2 2 w (g.γ (.ob 0)) 0 L.toArray := by
  unfold HoldsK Holds
  rw [Nf]
  intro j hj
  simp only [List.size_toArray, hfl] at hj
  constructor
  rotate_left
  ·simp [World.frozen?, ha]
  rw [Nat.zero_add, cell_of_row w _ j arr _ (0, 0) ha, hget j hj, getElem!_pos _ j (by simpa [hfl] using hj)]
  simp [hfl, hj]
 have eg : ∀ args w, (callFunc f args).run Tryz.prog w = .ok (.enter f args) w := fun args w => BP hf args w
 have hcon := AnyQ.slices_SortFunc_total Tryz.sortArrows 2 Tryz.isAgg106 Tryz.sizeOf106 X2 (fun _ => rfl) (fun x v hv => by simp [X2] at hv; rcases hv with rfl | rfl <;> rfl) Gc Vu f #[] (g.γ (.ob 0)) 0 (g.κ 0) L.toArray w eg hlays hH hblk (by simp; omega)
  (fun x y h1 h2 => by
   rw [show ltOf Gc x y = WK x y from Ce x y] at h1
   rw [show ltOf Gc y x = WK y x from Ce y x] at h2
   rcases Hh x y with h | h | h
   ·rw [h] at h1; cases h1
   ·exact h
   ·rw [h] at h2; cases h2)
 change Calls Tryz.prog 115 _ _ _ at hcon
 have hsz2 : L.toArray.size = L.length := by simp
 rw [hsz2] at hcon
 refine hcon.mono ?_
 rintro e' w' ⟨rfl, m, os, rfl⟩
 have hSl : (Fx L).length = L.length := List.length_mergeSort _
 have hfl' := Dc X2 2 (fun _ => rfl) (Fx L)
 have hself : (sortWorldK X2 2 w (g.γ (.ob 0)) 0 m (Fx L).toArray os).heap[g.γ (.ob 0)]? = some (.cells (putCells id 0 ((Fx L).flatMap X2).toArray arr) 106 (0, 0)) := by
  unfold sortWorldK putRowK putRow mapBlock Sort.grow Sort.ahead
  rw [Nf]
  simp only
  rw [Array.getElem?_append_left (by simpa using hblk), Array.getElem?_modify, if_pos rfl, ha]
  rfl
 have hsize : w.heap.size <= (sortWorldK X2 2 w (g.γ (.ob 0)) 0 m (Fx L).toArray os).heap.size := by simp [sortWorldK, putRowK, putRow, mapBlock, Sort.grow, Sort.ahead]
 have hother : ∀ k, k < w.heap.size -> k ≠ g.γ (.ob 0) -> (sortWorldK X2 2 w (g.γ (.ob 0)) 0 m (Fx L).toArray os).heap[k]? = w.heap[k]? := by
  intro k hk hn
  unfold sortWorldK putRowK putRow mapBlock Sort.grow Sort.ahead
  simp only
  rw [Array.getElem?_append_left (by simpa using hk), Array.getElem?_modify, if_neg (Ne.symm hn)]
 have hfp : Fp (FX [.r ⟨106, 2, true, Ax L⟩] g) w (sortWorldK X2 2 w (g.γ (.ob 0)) 0 m (Fx L).toArray os) :=
  ⟨rfl, rfl, rfl, hsize, fun k hk hm => hother k hk fun e => hm ⟨.ob 0, X3.2 ⟨rfl, h0⟩, e.symm⟩, by simp [sortWorldK, putRowK, putRow, mapBlock, Sort.grow, Sort.ahead]⟩
 refine ⟨.tuple #[], .u, _, g, rfl, ⟨rfl, Fx L, LK L, PK L, rfl⟩, ?_, ⟨by simp, Ext.refl _ _⟩, fun ℓ hl => .inl ⟨ℓ, X3.2 (X3.1 hl), rfl⟩, trivial, hfp⟩
 refine ⟨fun b hb => Nat.lt_of_lt_of_le (hr.ml b hb) hsize, fun ℓ hl => hr.md ℓ (X3.2 (X3.1 hl)), fun ℓ ℓ' hl hl' => hr.inj ℓ ℓ' (X3.2 (X3.1 hl)) (X3.2 (X3.1 hl')), fun id r hid => ?_, fun id r hid => ?_, hr.gl.keep hsize (fun k hk hn => hother k hk (fun e => hn (.inr ⟨.ob 0, X3.2 ⟨rfl, h0⟩, e.symm⟩))) (fun k _ hk => hk.imp (fun h => h) (fun ⟨ℓ, hl, e⟩ => ⟨ℓ, X3.2 (X3.1 hl), e⟩))⟩
 rotate_left
 ·cases id with
  | zero => simp at hid
  | succ i => simp at hid
 cases id with
 | succ i => simp at hid
 | zero =>
  simp at hid
  subst hid
  refine .inr ⟨h0, fun _ hn => ?_, _, hself, ?_, ?_, hmx, fun j c hj => ?_⟩
  ·have : (Ax (Fx L)).length = 0 := by simp only at hn; rw [hn]; rfl
   rw [Ap, hSl] at this; omega
  ·simp only [Ap, hSl, putCells, Array.size_mapIdx]; exact hle'
  ·simpa [putCells] using hs
  rw [Gm, List.getElem?_map, Option.map_eq_some_iff] at hj
  obtain ⟨v, hv, rfl⟩ := hj
  have hjl : j < L.length * 2 := by have := (List.getElem?_eq_some_iff.1 hv).1; rw [hfl', hSl] at this; exact this
  refine ⟨v, ?_, rfl⟩
  have hj2 : j < ((Fx L).flatMap X2).length := by rw [hfl', hSl]; exact hjl
  have hjc : j < arr.size := by omega
  simp only [putCells, Array.getElem?_mapIdx, Nat.zero_le, true_and, Nat.zero_add, List.size_toArray, hj2, if_true, Nat.sub_zero]
  rw [gEd hjc]
  rw [gE1 hj2] at hv
  have hv2 := Option.some.inj hv
  rw [<- hv2]
  simp
  rw [gE1 hj2]; rfl
theorem db:UM Tryz.prog 106 2:=TS Tryz.underlying106 (by kernel_rfl) (by kernel_rfl) (by decide) (by decide) rfl rfl (by kernel_rfl) (by kernel_rfl)
theorem d6 (x y:Operand) (a b:Ar):FR Tryz.prog .eql 106 x y [.int .i64 a.1,.int .i64 a.2] [.int .i64 b.1,.int .i64 b.2] (decide (a=b))=True:=by
 rw [<- Dm]
 refine eq_true ?_
 have:=(db x y [.v (.int .i64 a.1),.v (.int .i64 a.2)] [.v (.int .i64 b.1),.v (.int .i64 b.2)] _ _ rfl rfl rfl rfl).1
 simpa [VD] using this
theorem d7 (x y:Operand) (a b:Ar):FR Tryz.prog .neq 106 x y [.int .i64 a.1,.int .i64 a.2] [.int .i64 b.1,.int .i64 b.2] (!decide (a=b))=True:=by
 rw [<- Dm]
 refine eq_true ?_
 have:=(db x y [.v (.int .i64 a.1),.v (.int .i64 a.2)] [.v (.int .i64 b.1),.v (.int .i64 b.2)] _ _ rfl rfl rfl rfl).2
 simpa [VD] using this
attribute [local go_sem] List.map_cons List.map_nil List.take_succ_cons List.take_zero List.drop_zero List.drop_succ_cons C.pl C.one List.all_cons List.all_nil Bool.and_true
set_option maxHeartbeats 1000000 in
theorem cj (L:List Ar) (hn:L.length<=100000000):FC Tryz.prog 117 [.a (.c (.s 0 L.length))] [.r ⟨106,2,true,Ax L⟩]
  (fun r o=>r=.a (.c (.s 0 (LJ L).length))/\∃ rest us,Fz rest us/\(L=[]->rest=[])/\o=[.r ⟨106,2,true,Ax (LJ L)++rest⟩]):=by
 refine A6 Tryz.func117 rfl (by rw [Tryz.ntmps117];simp) ?_
 rw [Tryz.ntmps117]
 simp only [Bf]
 (refine Wt ?_;(repeat clear hK K);repeat refine kq fun K hK=>?_)
 (refine At ?_;intro X Y hX hY;simp only [go_sem])
 refine ⟨fun h=>hX ?_,fun h=>hY ?_⟩
 ·clear hX hY X Y
  (refine Wt ?_;(repeat clear hK K);repeat refine kq fun K hK=>?_)
  refine WH Tryz.results117 ?_
  have hc:LJ L=L:=by
   match L,h with
   | [],_=>rfl
   | [x],_=>rfl
   | _ :: _ :: _,h=>simp at h;omega
  rw [hc]
  exact ⟨rfl,[],[],trivial,fun _=>rfl,by simp⟩
 clear hX hY X Y
 have h2:2<=L.length:=by simp at h;omega
 clear h
 (refine Wt ?_;(repeat clear hK K);repeat refine kq fun K hK=>?_)
 refine A8 (fun k:Nat=>{ tm:=[(0,.a (.c (.s 0 L.length))),(3,.i (k+1:Nat))],hp:=[.r ⟨106,2,true,Ax L⟩],n:=61,pin:=1 }) (fun k=>k+1<=L.length/\LJ L=L.take (k+1)++Ei (L.getD k (0,0)) (L.drop (k+1))) (fun k=>L.length - k) 0 ?_ ?_ ?_
 ·refine ⟨by omega,?_⟩
  match L,h2 with
  | x :: r,_=>simp [LJ]
 ·exact WE
 rintro k ⟨hk,he⟩ K hK
 (refine Wt ?_;(repeat clear hK K);repeat refine kq fun K hK=>?_)
 (refine At ?_;intro X Y hX hY;simp only [go_sem])
 refine ⟨fun h=>hX ?_,fun h=>hY ?_⟩
 rotate_left
 ·have hge:k+1=L.length:=by simp at h;omega
  clear hX hY X Y
  (refine Wx ?_;repeat clear hK K)
  (refine Wt ?_;(repeat clear hK K);repeat refine kq fun K hK=>?_)
  refine WH Tryz.results117 ?_
  have hc:LJ L=L:=by rw [he,hge];simp [Ei]
  rw [hc]
  exact ⟨rfl,[],[],trivial,fun _=>rfl,by simp⟩
 have hlt:k+1<L.length:=by simp at h;omega
 have hlt0:k<L.length:=by omega
 clear hX hY X Y h
 have e1:((k+1:Nat):Int) - 1=(k:Int):=by omega
 have g0:L.getD k (0,0)=L[k]:=by simp [List.getD,hlt0]
 rw [g0] at he
 have hst:=GW he (Nat.le_refl _) (gE1 hlt)
 (refine Wt ?_;(repeat clear hK K);repeat refine kq fun K hK=>?_)
 (refine Ac 9 [(0,0),(1,0),(2,0),(3,1),(4,0),(5,0),(6,0),(7,0),(8,1),(9,2)] (by kernel_rfl) (by kernel_rfl) (by intro c st h;simp [Ae,AF,VT] at h) ?_)
 (refine Wq (an @e1 (an (DR hlt) (an (DR hlt0) (an @Ap (an @d6 (an @Dm @true_and)))))) ?_;repeat clear hK K)
 (refine At ?_;intro X Y hX hY;simp only [go_sem])
 refine ⟨fun h=>hX ?_,fun h=>hY ?_⟩
 rotate_left
 ·clear hX hY X Y
  have hne:L[k+1] ≠ L[k]:=by simpa using h
  clear h
  (refine Wt ?_;(repeat clear hK K);repeat refine kq fun K hK=>?_)
  refine WD ?_
  refine hK _ (k+1) ⟨hlt,?_⟩ (by omega) ?_
  rotate_left
  ·exact WE
  have h1:=hst.2.1 hne
  rw [hst.2.2 hne rfl] at h1
  have:L.getD (k+1) (0,0)=L[k+1]:=by simp [List.getD,hlt]
  rw [this]
  exact h1
 clear hX hY X Y
 have heq:L[k+1]=L[k]:=by simpa using h
 clear h
 have hI:=hst.1 heq
 clear hst he
 (refine Wt ?_;(repeat clear hK K);repeat refine kq fun K hK=>?_)
 refine A8 (fun q:Nat × Nat × List Ar=>{ tm:=[(0,.a (.c (.s 0 L.length))),(3,.i q.1),(4,.a (.c (.w 0 (k+1) (L.length - (k+1)) 2))),(5,.i (q.2.1+1:Nat))],hp:=[.r ⟨106,2,true,Ax q.2.2⟩],n:=61,pin:=1 })
  (fun q=>q.2.2.length=L.length/\(∀ x∈q.2.2,x∈L)/\q.1<=k+1+q.2.1/\k+2+q.2.1<=L.length/\LJ L=q.2.2.take q.1++Ei (q.2.2.getD (k+1+q.2.1) (0,0)) (q.2.2.drop (k+2+q.2.1))) (fun q=>L.length - q.2.1) (k+1,0,L) ?_ ?_ ?_
 ·refine ⟨rfl,fun x h=>h,by simp,by simp only;omega,?_⟩
  have:L.getD (k+1) (0,0)=L[k+1]:=by simp [List.getD,hlt]
  simp only [Nat.add_zero,this]
  exact hI
 ·exact WE
 clear hI
 rintro ⟨m,j,ys⟩ ⟨hyl,hys,hm,hj,he⟩ K hK
 simp only at hyl hys hm hj he
 (refine Wt ?_;(repeat clear hK K);repeat refine kq fun K hK=>?_)
 (refine At ?_;intro X Y hX hY;simp only [go_sem])
 refine ⟨fun h=>hX ?_,fun h=>hY ?_⟩
 rotate_left
 ·clear hX hY X Y
  (refine Wx ?_;repeat clear hK K)
  have hend:ys.length<=k+2+j:=by simp at h;omega
  have hfin:=N9 he hend
  have hm2:m<L.length:=by omega
  (refine Wt ?_;(repeat clear hK K);repeat refine kq fun K hK=>?_)
  refine Ai rfl ?_;intro K1 hK1
  refine Mw (n:=L.length - m) (off:=m) (k:=2) (id:=0) rfl rfl Tryz.underlying104 ty106 (by simp only [go_sem]) rfl (by omega) rfl rfl (by simp only [Ap];omega) ?_
  intro zs hz1 hz2
  have hset:DJ (Ax ys) (m*2) zs=Ax (ys.take m)++zs:=by
   rw [Kp _ _ _ (by rw [Ap];omega),DQ]
  simp only [hset,List.set_cons_zero,go_sem]
  refine hK1 _ ?_;clear hK1 K1
  (refine Wt ?_;(repeat clear hK K);repeat refine kq fun K hK=>?_)
  refine WH Tryz.results117 ?_
  have hc:LJ L=ys.take m:=hfin
  rw [hc]
  refine ⟨by rw [List.length_take,Nat.min_eq_left (by omega)],zs,zs.map fun _=>Tr.v (.int .i64 0),?_,fun h0=>by rw [h0] at h2;simp at h2,rfl⟩
  have:zs=zs.map id:=by simp
  rw [this,List.map_map]
  exact Fz.map fun c hc=>by
   have:=hz2 c hc
   simp at this
   subst this
   exact .inl rfl
 have hlt:k+1+(j+1)<ys.length:=by simp at h;omega
 have hlt0:k+1+j<ys.length:=by omega
 have hw:((j+1:Nat):Int)<((L.length - (k+1):Nat):Int):=by omega
 have hw0:(j:Int)<((L.length - (k+1):Nat):Int):=by omega
 clear hX hY X Y h
 have e1:((j+1:Nat):Int) - 1=(j:Int):=by omega
 have g0:ys.getD (k+1+j) (0,0)=ys[k+1+j]:=by simp [List.getD,hlt0]
 rw [g0,show k+2+j=k+1+(j+1) from by omega] at he
 have hst:=GW he (by omega) (gE1 hlt)
 (refine Wt ?_;(repeat clear hK K);repeat refine kq fun K hK=>?_)
 have hk1:k+1+(j+1)=k+1+(j+1):=rfl
 (refine Ac 9 [(0,0),(1,0),(2,0),(3,1),(4,0),(5,0),(6,0),(7,0),(8,1),(9,2)] (by kernel_rfl) (by kernel_rfl) (by intro c st h;simp [Ae,AF,VT] at h) ?_)
 (refine Wq (an @e1 (an (DR hlt) (an (DR hlt0) (an @Ap (an @d7 (an @Dm @true_and)))))) ?_;repeat clear hK K)
 (refine At ?_;intro X Y hX hY;simp only [go_sem])
 refine ⟨fun h=>hX ?_,fun h=>hY ?_⟩
 rotate_left
 ·clear hX hY X Y
  have heq:ys[k+1+(j+1)]=ys[k+1+j]:=by simpa using h
  clear h
  (refine Wt ?_;(repeat clear hK K);repeat refine kq fun K hK=>?_)
  refine WD ?_
  refine hK _ (m,j+1,ys) ⟨hyl,hys,by simp only;omega,by simp only;omega,?_⟩ (by simp only;omega) ?_
  rotate_left
  ·exact WE
  have h1:=hst.1 heq
  have:ys.getD (k+1+(j+1)) (0,0)=ys[k+1+(j+1)]:=by simp [List.getD,hlt]
  simp only
  rw [this,show k+2+(j+1)=k+1+(j+1)+1 from by omega]
  exact h1
 clear hX hY X Y
 have hne:ys[k+1+(j+1)] ≠ ys[k+1+j]:=by simpa using h
 clear h
 have hm1:m<ys.length:=by omega
 (repeat (first | (refine AC ?_;intro K hK) | refine Aj ?_ | refine Ad ?_ | (refine B5 rfl rfl ?_;intro K1 hK1;simp only [go_sem,DR hlt,Ap,DJ,Nb hm1];(first | refine hK1 _ ?_ | refine AD (hK1 _ ?_));clear hK1 K1) | ((first | refine Aa ?_ | refine Al ?_);refine hK _ ?_;clear hK K)))
 refine WD ?_
 have hst2:=hst.2.1 hne
 have hpp:(ys.set m ys[k+1+(j+1)]).getD (k+1+(j+1)) (0,0)=ys[k+1+(j+1)]:=by
  rw [List.getD,gE5 (by omega),gE1 hlt];rfl
 refine hK _ (m+1,j+1,ys.set m ys[k+1+(j+1)]) ⟨by simp [hyl],?_,by simp only;omega,by simp only;omega,?_⟩ (by simp only;omega) ?_
 rotate_left
 ·simp only
  rw [hpp,show k+2+(j+1)=k+1+(j+1)+1 from by omega]
  exact hst2
 ·exact WE
 intro x hx
 rcases List.mem_or_eq_of_mem_set hx with hx | rfl
 ·exact hys x hx
 exact hys _ (gE6 hlt)

open Go.RowKit
theorem cO {s:ST} (i j n:Nat) {ri:Row} {k:Nat × Nat} {cs:List Tr} (hi:s.hp[i]?=some (.r ri)) (hj:ri.cells[j]?=some (.o k cs)) (hn:cs.length=n*k.1) (hk:0<k.1):
  Le s { s with hp:=s.hp.set i (Ob.r { ri with cells:=ri.cells.set j (.s s.hp.length n) })++[Ob.r ⟨k.2,k.1,true,cs.map C.ofTr⟩] }:=by
 rintro M0 w0 a w ⟨g,hpp,hR⟩
 have hr:=hR.hr
 have hlt:i<s.hp.length:=(List.getElem?_eq_some_iff.1 hi).1
 have hjl:j<ri.cells.length:=(List.getElem?_eq_some_iff.1 hj).1
 have self:(s.hp.set i (Ob.r { ri with cells:=ri.cells.set j (.s s.hp.length n) })++[Ob.r ⟨k.2,k.1,true,cs.map C.ofTr⟩])[i]?=some (.r { ri with cells:=ri.cells.set j (.s s.hp.length n) }):=by
  rw [gEa (by simpa using hlt)];simp [hlt]
 have newr:(s.hp.set i (Ob.r { ri with cells:=ri.cells.set j (.s s.hp.length n) })++[Ob.r ⟨k.2,k.1,true,cs.map C.ofTr⟩])[s.hp.length]?=some (.r ⟨k.2,k.1,true,cs.map C.ofTr⟩):=by
  rw [gEb (by simp)];simp
 have other:∀ q,q ≠ i->q ≠ s.hp.length->(s.hp.set i (Ob.r { ri with cells:=ri.cells.set j (.s s.hp.length n) })++[Ob.r ⟨k.2,k.1,true,cs.map C.ofTr⟩])[q]?=s.hp[q]?:=fun q h1 h2=>by
  rcases Nat.lt_or_ge q s.hp.length with h | h
  ·rw [gEa (by simpa using h),gE5 (Ne.symm h1)]
  rw [List.getElem?_eq_none (by simp;omega),List.getElem?_eq_none h]
 have hlen:(s.hp.set i (Ob.r { ri with cells:=ri.cells.set j (.s s.hp.length n) })++[Ob.r ⟨k.2,k.1,true,cs.map C.ofTr⟩]).length=s.hp.length+1:=by simp
 have hid:i ≠ s.hp.length:=by omega
 have cel:∀ q c,(ri.cells.set j (.s s.hp.length n))[q]?=some c->(q=j/\c=.s s.hp.length n)\/(q ≠ j/\ri.cells[q]?=some c):=by
  intro q c hq
  by_cases e:q=j
  ·subst e;rw [gEc hjl] at hq;cases hq;exact .inl ⟨rfl,rfl⟩
  rw [gE5 (Ne.symm e)] at hq;exact .inr ⟨e,hq⟩
 have noo:∀ (t:Tr) (k:Nat × Nat) (cs:List Tr),C.ofTr t ≠ .o k cs:=fun t k cs=>by cases t <;> simp [C.ofTr]
 obtain ⟨cap,hcap⟩:∃ cap,(cs=[]/\cap=0\/cs ≠ []/\cap ≠ 0)/\∃ u,(∀ arr:Array Value,w.heap[g.γ (.ob i)]?=some (.cells arr ri.e (0,0))->arr[j]?=some u)/\n<=cap/\(∃ A,u=.slice A n cap/\(cap ≠ 0->A=some ⟨g.γ (.cl i j),0,none⟩)/\∀ a,A=some a->a.block<w.heap.size)/\
   (cap ≠ 0->cap<=9223372036854775807/\∃ arr2:Array Value,w.heap[g.γ (.cl i j)]?=some (.cells arr2 k.2 (0,0))/\arr2.size=cap*k.1/\∀ (q:Nat) (t:Tr),cs[q]?=some t->∃ v,arr2[q]?=some v/\Rd (Ow s.hp g) w t v):=by
  rcases hr.row i ri hi with ⟨_,k2⟩ | ⟨k1,k2,arr,k3,k4,k5,k6,k7⟩
  ·rw [k2] at hj;simp at hj
  obtain ⟨u,u1,u2⟩:=k7 j _ hj
  have hu:∀ arr2:Array Value,w.heap[g.γ (.ob i)]?=some (.cells arr2 ri.e (0,0))->arr2[j]?=some u:=fun arr2 h2=>by
   rw [k3] at h2;cases h2;exact u1
  rcases u2 with ⟨h1,A,h2,h3⟩ | ⟨h1,n2,c,arr2,h2,h3,h4,h5,h6,h7,h8⟩
  ·have hn0:n=0:=by
    rw [h1] at hn
    rcases Nat.eq_zero_or_pos n with h | h
    ·exact h
    ·have:=Nat.mul_pos h hk;simp at hn;omega
   exact ⟨0,.inl ⟨h1,rfl⟩,u,hu,by omega,⟨A,by rw [h2,hn0],fun h=>absurd rfl h,h3⟩,fun h=>absurd rfl h⟩
  ·have hn2:n2=n:=Nat.eq_of_mul_eq_mul_right hk (h3.symm.trans hn)
   subst hn2
   have hb:g.γ (.cl i j)<w.heap.size:=(Array.getElem?_eq_some_iff.1 h6).1
   have hc0:c ≠ 0:=by
    intro h0
    have:n2=0:=by omega
    rw [this] at h3
    exact h1 (List.length_eq_zero_iff.1 (by simpa using h3))
   exact ⟨c,.inr ⟨h1,hc0⟩,u,hu,h4,⟨_,h2,fun _=>rfl,fun a ha=>by cases ha;exact hb⟩,fun _=>⟨h5,arr2,h6,h7,h8⟩⟩
 obtain ⟨hcc,u,hu,hnc,⟨A,hA1,hA2,hA3⟩,hown⟩:=hcap
 generalize hh:s.hp.set i (Ob.r { ri with cells:=ri.cells.set j (.s s.hp.length n) })++[Ob.r ⟨k.2,k.1,true,cs.map C.ofTr⟩]=hp' at *
 let g':Gh:=⟨fun ℓ=>if ℓ=.ob s.hp.length then g.γ (.cl i j) else g.γ ℓ,fun q=>if q=s.hp.length then cap else g.κ q,g.M⟩
 have gs:g'.γ (.ob s.hp.length)=g.γ (.cl i j):=if_pos rfl
 have gn:∀ ℓ,ℓ ≠ .ob s.hp.length->g'.γ ℓ=g.γ ℓ:=fun ℓ h=>if_neg h
 have ks:g'.κ s.hp.length=cap:=if_pos rfl
 have kn:∀ q,q ≠ s.hp.length->g'.κ q=g.κ q:=fun q h=>if_neg h
 have src:∀ ℓ,Lv hp' g' ℓ->(ℓ=.ob s.hp.length/\Lv s.hp g (.cl i j))\/(ℓ ≠ .ob s.hp.length/\ℓ ≠ .cl i j/\Lv s.hp g ℓ):=by
  intro ℓ hl
  cases ℓ with
  | ob q=>
   by_cases hq:q=s.hp.length
   ·subst hq
    refine .inl ⟨rfl,ri,k,cs,hi,hj,?_⟩
    rcases hl with ⟨r2,_,e2⟩ | ⟨kv,e1⟩
    rotate_left
    ·rw [newr] at e1;cases e1
    rw [ks] at e2
    rcases hcc with ⟨_,h0⟩ | ⟨h0,_⟩
    ·exact absurd h0 e2
    exact h0
   refine .inr ⟨by simpa using hq,by simp,?_⟩
   by_cases hqi:q=i
   ·subst hqi
    rcases hl with ⟨r2,_,e2⟩ | ⟨kv,e1⟩
    ·exact .inl ⟨ri,hi,by rw [kn _ hq] at e2;exact e2⟩
    rw [self] at e1;cases e1
   rcases hl with ⟨r2,e1,e2⟩ | ⟨kv,e1⟩
   ·exact .inl ⟨r2,by rw [<- other q hqi hq];exact e1,by rw [kn _ hq] at e2;exact e2⟩
   exact .inr ⟨kv,by rw [<- other q hqi hq];exact e1⟩
  | cl q j2=>
   obtain ⟨r2,k2,cs2,e1,e2,e3⟩:=hl
   by_cases hq:q=s.hp.length
   ·subst hq
    rw [newr] at e1
    cases e1
    simp only [List.getElem?_map,Option.map_eq_some_iff] at e2
    obtain ⟨t,_,ht⟩:=e2
    exact absurd ht (noo _ _ _)
   by_cases hqi:q=i
   rotate_left
   ·exact .inr ⟨by simp,by simp [hqi],r2,k2,cs2,by rw [<- other q hqi hq];exact e1,e2,e3⟩
   subst hqi
   rw [self] at e1
   cases e1
   rcases cel j2 _ e2 with ⟨_,h⟩ | ⟨h0,h⟩
   ·cases h
   exact .inr ⟨by simp,by simp [h0],ri,k2,cs2,hi,h,e3⟩
 have ow:∀ b,Ow hp' g' b->Ow s.hp g b:=by
  rintro b (ho | ⟨ℓ,hl,e⟩)
  ·exact .inl ho
  rcases src ℓ hl with ⟨rfl,h1⟩ | ⟨h0,_,h1⟩
  ·rw [gs] at e;exact .inr ⟨_,h1,e⟩
  rw [gn _ h0] at e;exact .inr ⟨_,h1,e⟩
 have nbn:∀ q,Bn s.hp q->q ≠ s.hp.length:=fun q ⟨o,h,_⟩ e=>by subst e;simp at h
 have hm:Mo g s.hp w g' hp' w (fun _=>True):=by
  refine ⟨fun q hq=>⟨?_,gn _ (by simpa using nbn q hq),kn _ (nbn q hq)⟩,fun b _ ho=>ow b ho,Nat.le_refl _,fun _ _ _=>rfl,fun q _ hq r2 j2 k2 cs2 e1 e2=>?_⟩
  ·by_cases e:q=i
   ·subst e;exact ⟨_,self,rfl⟩
   have hn:=nbn q hq
   obtain ⟨o,h1,h2⟩:=hq
   exact ⟨o,by rw [other q e hn];exact h1,h2⟩
  have hn:=nbn q hq
  by_cases e:q=i
  rotate_left
  ·exact ⟨r2,by rw [<- other q e hn];exact e1,e2,fun _=>rfl⟩
  subst e
  rw [self] at e1
  cases e1
  rcases cel j2 _ e2 with ⟨_,h⟩ | ⟨_,h⟩
  ·cases h
  exact ⟨ri,hi,h,fun _=>rfl⟩
 refine ⟨g',⟨by show s.pin<=hp'.length;have:=hpp.1;omega,hpp.2.trans ⟨rfl,fun q hq=>?_⟩⟩,hR.mo hm ?_ (fun ℓ hl=>?_) hR.fp⟩
 rotate_left 2
 ·rcases src ℓ hl with ⟨rfl,h1⟩ | ⟨h0,_,h1⟩
  ·rw [gs];exact hR.new _ h1
  rw [gn _ h0];exact hR.new _ h1
 ·have:q ≠ s.hp.length:=by have:=hpp.1;omega
  exact ⟨gn _ (by simpa using this),kn _ this⟩
 refine ⟨hr.ml,fun ℓ hl=>?_,fun ℓ ℓ' h1 h2 he=>?_,fun q r2 e1=>?_,fun q kv e1=>?_,hm.gl hr.gl⟩
 rotate_left 3
 ·by_cases hq:q=s.hp.length
  ·subst hq;rw [newr] at e1;cases e1
  by_cases e:q=i
  ·subst e;rw [self] at e1;cases e1
  rw [other q e hq] at e1
  exact MpR.mo hm e1 (hr.mp q kv e1) rfl
 ·rcases src ℓ hl with ⟨rfl,h1⟩ | ⟨h0,_,h1⟩
  ·rw [gs];exact hr.md _ h1
  rw [gn _ h0];exact hr.md _ h1
 ·rcases src ℓ h1 with ⟨rfl,a1⟩ | ⟨a0,a2,a1⟩ <;> rcases src ℓ' h2 with ⟨rfl,b1⟩ | ⟨b0,b2,b1⟩
  rotate_left 2
  ·rw [gs,gn _ a0] at he
   exact absurd (hr.inj _ _ a1 b1 he) a2
  ·rw [gn _ a0,gn _ b0] at he
   exact hr.inj _ _ a1 b1 he
  ·rfl
  rw [gs,gn _ b0] at he
  exact absurd (hr.inj _ _ a1 b1 he).symm b2
 by_cases hq:q=s.hp.length
 ·subst hq
  rw [newr] at e1
  cases e1
  rcases hcc with ⟨h0,h1⟩ | ⟨h0,h1⟩
  ·exact .inl ⟨by rw [ks,h1],by rw [h0];rfl⟩
  obtain ⟨m1,arr2,m2,m3,m4⟩:=hown h1
  refine .inr ⟨by rw [ks];exact h1,fun _ h=>h0 (by simpa using h),arr2,by rw [gs];exact m2,?_,by rw [ks];exact m3,by rw [ks];exact m1,fun q c hq=>?_⟩
  ·simp only [List.length_map];rw [hn,m3];exact Nat.mul_le_mul_right _ hnc
  simp only [List.getElem?_map,Option.map_eq_some_iff] at hq
  obtain ⟨t,ht,rfl⟩:=hq
  obtain ⟨v,v1,v2⟩:=m4 q t ht
  refine ⟨v,v1,?_⟩
  have h3:CR g' hp' w (C.ofTr t) v:=EN (hm.rd v2)
  cases t with
  | v x=>exact h3
  | l k2 cs2=>exact h3
 by_cases e:q=i
 rotate_left
 ·rw [other q e hq] at e1
  exact RowR.mo hm e1 (hr.row q r2 e1) (fun _=>rfl) (fun _ _ _ _ _=>⟨gn _ (by simp),rfl⟩)
 subst e
 rw [self] at e1
 cases e1
 rcases hr.row q ri hi with ⟨k1,k2⟩ | ⟨k1,k2,arr,k3,k4,k5,k6,k7⟩
 ·rw [k2] at hj;simp at hj
 refine .inr ⟨by rw [kn _ hq];exact k1,fun h1 h2=>k2 h1 (List.length_eq_zero_iff.1 (by rw [<- List.length_set (i:=j) (a:=C.s s.hp.length n)];exact List.length_eq_zero_iff.2 h2)),arr,by rw [gn _ (by simpa using hq)];exact k3,by simpa using k4,by rw [kn _ hq];exact k5,by rw [kn _ hq];exact k6,fun j2 c hj2=>?_⟩
 rcases cel j2 c hj2 with ⟨rfl,rfl⟩ | ⟨hne,h⟩
 rotate_left
 ·obtain ⟨v,v1,v2⟩:=k7 j2 c h
  exact ⟨v,v1,CellR.mo hm v2 (fun k3 cs3 hc _=>⟨gn _ (by simp),rfl⟩)⟩
 refine ⟨u,hu arr k3,?_⟩
 exact ⟨⟨_,newr,rfl⟩,by rw [ks];exact hnc,A,by rw [ks];exact hA1,fun h=>by rw [gs];exact hA2 (by rw [ks] at h;exact h),hA3⟩
end Go.Proofs.YtjijjfkalheokaaGreatDoor
