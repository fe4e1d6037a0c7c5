/- Lemmas. -/
import Derived.Test.YtjijjfkalheokaaGreatDoorZk
import Derived.Test.YtjijjfkalheokaaGreatDoorW03
import Derived.Test.YtjijjfkalheokaaGreatDoorW04
import Derived.Test.YtjijjfkalheokaaGreatDoorG72
import Derived.Test.YtjijjfkalheokaaGreatDoorDl1
import Derived.Test.YtjijjfkalheokaaGreatDoorMno
import Derived.Test.YtjijjfkalheokaaGreatDoorG11
import Derived.Test.YtjijjfkalheokaaGreatDoorG70
namespace Go.Proofs.YtjijjfkalheokaaGreatDoor
set_option linter.unusedVariables false
set_option linter.unusedSimpArgs false
open Go.RowKit
set_option maxRecDepth 100000
attribute [local go_sem] lga C.pl C.one

def CpC (X:List (List Ar)) (D c:List Int):Prop:=∀ v,v<X.length->c.getD (XG D v) 0=c.getD v 0
theorem Uu {X:List (List Ar)} {D cl:List Int} (hv:Bv X=true) (h:CpOk X D) (hc:Nrm X.length cl) {v:Nat} (hs:v<X.length):Xi (C9 X) cl (XG D v)=Xi (C9 X) cl v:=by
 have hcv:=(BN hv h hs).2.1
 refine Cg (B9 _) (B9 _) fun x=>?_
 show x∈Xi (C9 X) cl (XG D v)↔x∈Xi (C9 X) cl v
 obtain ⟨e,y⟩:=x
 have key:∀ i:Nat,(e,(i:Int))∈Xi (C9 X) cl (XG D v)↔(e,(i:Int))∈Xi (C9 X) cl v:=fun i=>by
  by_cases he:e=0
  ·subst he;rw [Fe hv hcv,Fe hv hs,O6 hv h hs]
  rw [Ff hv hcv he,Ff hv hs he,LU hv h hs]
 constructor
 rotate_left
 ·intro hx
  obtain ⟨i,_,hy⟩:=NZ hv hc hs hx
  simp only at hy
  subst hy
  exact (key i).2 hx
 intro hx
 obtain ⟨i,_,hy⟩:=NZ hv hc hcv hx
 simp only at hy
 subst hy
 exact (key i).1 hx
theorem CpC.next {X:List (List Ar)} {D cl:List Int} (hv:Bv X=true) (hn:X.length<=100) (h:CpOk X D) (hc:Nrm X.length cl) (hC:CpC X D cl):CpC X D (Xk (C9 X) cl):=by
 intro v hs
 have hSl:=(Ht hv hn).1
 have hcv:=(BN hv h hs).2.1
 unfold Xk
 refine ((Cx (Xj (C9 X) cl) (C9 X).length).eq _ _ (by omega) (by omega)).2 ?_
 unfold Xj
 rw [hC v hs,Uu hv h hc hs]
theorem CpC.start {X:List (List Ar)} {D:List Int} {B:List Bool} (hv:Bv X=true) (h:CpOk X D) (hB:DvL X B):CpC X D (Xv B X.length):=by
 intro v hs
 obtain ⟨_,hcv,p3,p4,_⟩:=BN hv h hs
 rw [Jq hcv,Jq hs]
 have e:B.getD (XG D v) false=B.getD v false:=by
  rw [Bool.eq_iff_iff,hB.2 _ hcv,hB.2 _ hs]
  exact ⟨fun ⟨g,q1,q2⟩=>⟨g,p3.trans q1,q2⟩,fun ⟨g,q1,q2⟩=>⟨g,p4.trans q1,q2⟩⟩
 unfold Xu
 rw [e]
theorem KeyOf.cp {X:List (List Ar)} {D cl L:List Int} (hv:Bv X=true) (h:CpOk X D) (hC:CpC X D cl) {v:Nat} (hs:v<X.length) (hk:KeyOf X cl (XG D v) L):KeyOf X cl v L:=by
 obtain ⟨t,V,e1,e2,e3,e4,e5⟩:=hk.ex
 refine ⟨t,V,by rw [<- hC v hs];exact e1,e2.iff fun i _=>O6 hv h hs,e3,fun p hp=>?_,fun e i hr=>e5 e i ((LU hv h hs).2 hr)⟩
 obtain ⟨a1,a2,i,a3⟩:=e4 p hp
 exact ⟨a1,a2.iff fun i _=>LU hv h hs,i,(LU hv h hs).1 a3⟩
theorem Uv {X:List (List Ar)} {cl:List Int} (hv:Bv X=true) {s i:Nat} {e:Int} (h:RV X cl s e i):0<=e/\e<=1025:=by
 obtain ⟨_,u,hu,_,a,ha,rfl,_⟩:=h
 have:=EJ hv hu ha
 exact ⟨this.1,this.2.1⟩
theorem KeyOf.mk2 {X:List (List Ar)} {cl:List Int} (hv:Bv X=true) (hc:Nrm X.length cl) (hn:X.length<=64) {s w:Nat} {H:List Ob} {V:List (Int × Nat × Nat)} {VL:List (Int × Nat)} (hw:WS w (RT X cl s)) (hV:VSt H 6 V (RV X cl s)) (h1:WI (VL.map (·.1))) (h2:∀ q,q∈VL↔∃ p∈V,q=(p.1,p.2.2)):KeyOf X cl s (FM (cl.getD s 0) w VL):=by
 refine ⟨w,VL,rfl,hw,h1,fun q hq=>?_,fun e i hr=>?_⟩
 rotate_left
 ·have hi:=UY hv hc hr
  obtain ⟨p,hp,rfl,_⟩:=(hV.ex e i (by omega)).2 hr
  exact List.mem_map.2 ⟨_,(h2 _).2 ⟨p,hp,rfl⟩,rfl⟩
 obtain ⟨p,hp,rfl⟩:=(h2 q).1 hq
 obtain ⟨o1,o2,o3,i,hi,ho⟩:=hV.ob p hp
 have hex:=(hV.ex p.1 i hi).1 ⟨p,hp,rfl,ho⟩
 refine ⟨Uv hv hex,⟨o3,fun i hi=>?_⟩,i,hex⟩
 rw [<- hV.ex p.1 i hi]
 constructor
 ·intro hb;exact ⟨p,hp,rfl,hb⟩
 rintro ⟨p',hp',e1,hb⟩
 rw [<- Gv hV.nd hp' hp e1];exact hb
theorem KeyOf.nn {X:List (List Ar)} {cl L:List Int} (hc:Nrm X.length cl) (hn:X.length<=64) {s:Nat} (hs:s<X.length) (h:KeyOf X cl s L):UX L:=by
 obtain ⟨t,V,rfl,e2,e3,e4,e5⟩:=h.ex
 have hcl:=hc.len
 have hm:cl.getD s 0∈cl:=by rw [gE2,gE1 (by omega)];exact gE6 _
 have hr:=hc.rng _ hm
 intro x hx
 unfold FM at hx
 simp only [List.mem_cons,List.mem_append,List.mem_flatMap] at hx
 rcases hx with rfl | rfl | hx | ⟨p,hp,rfl | rfl | hx⟩
 ·omega
 ·have:=CP t;omega
 ·have:=KW x hx;omega
 ·have:=(e4 p hp).1;omega
 ·have:=CP p.2;omega
 have:=KW x hx;omega
theorem V4 {X:List (List Ar)} {cl:List Int} {ky:List Value} (hv:Bv X=true) (hn:X.length<=64) (hc:Nrm X.length cl) (hl:ky.length=X.length) (h:∀ s,s<X.length->∃ L,ky[s]?=some (Jx L)/\KeyOf X cl s L):Tu ky (Xj (C9 X) cl):=by
 intro a b ha hb
 rw [hl] at ha hb
 obtain ⟨L,h1,h2⟩:=h a ha
 obtain ⟨M,h3,h4⟩:=h b hb
 rw [gE2,h1,gE2,h3,Option.getD_some,Option.getD_some,Sq (h2.nn hc hn ha) (h4.nn hc hn hb)]
 congr 1
 rw [decide_eq_decide]
 exact KeyOf.iff hv hn hc ha hb h2 h4
theorem HS.setK {r0:Row} {n:Nat} {H:List Ob} {tc vc:List C} {ky:List Value} (h:HS r0 ⟨9,1,true,Y0 ky⟩ n H tc vc) (ky':List Value):HS r0 ⟨9,1,true,Y0 ky'⟩ n (H.set 1 (.r ⟨9,1,true,Y0 ky'⟩)) tc vc:=
 ⟨by rw [gE5 (by omega)];exact h.h0,gEc (Br h.hx),by rw [gE5 (by omega)];exact h.h1,by rw [gE5 (by omega)];exact h.h2,by rw [gE5 (by omega)];exact h.h3,by rw [gE5 (by omega)];exact h.h4,C2 h.ok (y:=.r ⟨9,1,true,Y0 ky'⟩) (by show (Y0 ky').all C.pl=true;simp [Y0,C.pl]) 1⟩
theorem TA.set1 {X:List (List Ar)} {cl:List Int} {Q:List Nat} {k:Nat} {H:List Ob} {tc:List C} (h:TA X cl Q k H tc) (ob:Ob):TA X cl Q k (H.set 1 ob) tc:=⟨h.1,h.2.1,fun j c hj hc=>by
 obtain ⟨y,w,a,b,d,e⟩:=h.2.2 j c hj hc
 exact ⟨y,w,a,b,by rw [gE5 (by omega)];exact d,e⟩⟩
theorem TB.set1 {X:List (List Ar)} {cl:List Int} {Q:List Nat} {k:Nat} {H:List Ob} {vc:List C} (h:TB X cl Q k H vc) (ob:Ob):TB X cl Q k (H.set 1 ob) vc:=⟨h.1,h.2.1,fun j c hj hc=>by
 obtain ⟨m,V,a,a2,b,d⟩:=h.2.2 j c hj hc
 refine ⟨m,V,a,a2,by rw [gE5 (by omega)];exact b,d.nd,d.nk,fun p hp=>?_,d.ex⟩
 obtain ⟨q1,q2,q3⟩:=d.ob p hp
 exact ⟨q1,by rw [gE5 (by omega)];exact q2,q3⟩⟩
theorem Uw (ky:List Value):(Y0 ky).all C.pl=true:=by simp [Y0,C.pl]
section
variable {o : Oper} {st : ST} {K : ST -> Prop} {α : Type} [DecidableEq α]
theorem H4 {x:Operand} {ts:Array TypeId} {a:Nat} {ky:List Value} (g:Nat->α) (hky:Tu ky g) (hn:ky.length<=1000000) (hd:VJ o st.n=true) (ho:o.op=.call { callee:=.value (.func 76),args:=#[x],argTypes:=ts }) (hx:st.ev x=.a (.c (.s a ky.length))) (ha:st.hp[a]?=some (.r ⟨9,1,true,Y0 ky⟩))
  (hnb:Fi [a] st.tm=st.tm) (h:K ({ st with hp:=st.hp++[AA (Xh g ky.length).1] }.put o.dst (.tup [.c (.s st.hp.length ky.length),.c (.v (.int .i64 (Xh g ky.length).2))]))):Stp Tryz.prog o st K:=by
 have i1:idx [a] a 0=some 0:=by simp [idx]
 have hren:(Ob.r ⟨9,1,true,Y0 ky⟩).ren [a]=.r ⟨9,1,true,Y0 ky⟩:=by simp [Ob.ren,Fd]
 refine AH (ids:=[]) [a] (SN ky g hky hn) hd ho rfl (by kernel_rfl) rfl (by simp [Br ha]) ?_ ?_ ?_ ?_
 ·simp [hx,Em,AV.ren,A0.ren,C.ren,i1]
 ·simp only [VS,List.map_cons,List.map_nil,D0 ha,hren]
 ·rintro r outs ⟨rfl,rfl⟩;rfl
 rintro r outs ⟨rfl,rfl⟩
 have e:st.back [a] [.r ⟨9,1,true,Y0 ky⟩,AA (Xh g ky.length).1]={ st with hp:=st.hp++[AA (Xh g ky.length).1] }:=by
  unfold ST.back
  rw [hnb]
  have e2:(Ob.r ⟨9,1,true,Y0 ky⟩).up (VV [a] st.hp.length)=.r ⟨9,1,true,Y0 ky⟩:=by simp [Ob.up,Uq]
  simp only [List.map_cons,List.map_nil,HG,e2,Cb]
  rw [FN ha]
 rw [e]
 have e3:(AV.tup [.c (.s 1 ky.length),.c (.v (.int .i64 (Xh g ky.length).2))]).up (VV [a] st.hp.length)=.tup [.c (.s st.hp.length ky.length),.c (.v (.int .i64 (Xh g ky.length).2))]:=by simp [AV.up,A0.up,C.up,VV]
 rw [e3];exact h
end
set_option maxHeartbeats 8000000 in
theorem T6 (X:List (List Ar)) (D:List Int) (Q:List Nat) (dv:List Bool) (hv:Bv X=true) (hn:X.length<=64) (hr:∀ r∈X,r.length<=1000000) (hD:CpOk X D) (hQ:Hr (Xy (XG D) X X.length) X.length (XG D) Q) (hB:DvL X dv):FC Tryz.prog 41 [.a (.c (.p 0 0))] [.r (Y9 X D (Q.map Int.ofNat) (Y6 (XG D) X.length) dv)] (fun r o=>∃ c,WkC X c/\Nrm X.length c/\r=As c/\o=[.r (Y9 X D (Q.map Int.ofNat) (Y6 (XG D) X.length) dv)]):=by
 refine A6 Tryz.func41 rfl (by rw [Tryz.ntmps41];simp) ?_
 rw [Tryz.ntmps41]
 have hlo:BE X=true:=gEg (gE4 hv).1
 have h1:1<=X.length:=(gE4 hlo).1
 have hDl:=hD.1
 have hBl:=hB.1
 simp only [Bf,Y9]
 (refine Wu (an @A3 (an @BD @hBl)) ?_;(repeat clear hK K);repeat refine kq fun K hK=>?_)
 have e0:List.replicate X.length (C.v (.string { data:=#[] }))=Y0 (Y3 Yh Yi dv X.length 0):=by rw [Qd];simp [Y0,Yi]
 rw [e0]
 refine A8 (fun k:Nat=>{ tm:=[(0,.a (.c (.p 0 0))),(3,.a (.c (.s 1 X.length))),(23,.a (.c (.t 1 (X6 dv)))),(24,.i X.length),(25,.i k)],hp:=[.r (Y9 X D (Q.map Int.ofNat) (Y6 (XG D) X.length) dv),.r ⟨9,1,true,Y0 (Y3 Yh Yi dv X.length k)⟩],n:=86,pin:=1 }) (fun k=>k<=X.length) (fun k=>X.length - k) 0 ?_ ?_ ?_
 ·omega
 ·simp only [Y9]
  exact WE
 rintro k hk K hK
 simp only [Y9]
 by_cases hlt:k<X.length
 ·have d1:decide ((k:Int)<(X.length:Int))=true:=by simpa using hlt
  have gB:(X6 dv)[k]?=some (.v (.bool (dv.getD k false))):=F7 (by rw [gE2,gE1 (by omega)];rfl)
  have hkt:=Qe (kd:=Yh) (ke:=Yi) (B:=dv) (n:=X.length) (k:=k)
  have hkf:=NV (kd:=Yh) (ke:=Yi) (B:=dv) (n:=X.length) (k:=k)
  have hkl:=Hx Yh Yi dv X.length k
  generalize dv.getD k false=b at *
  (refine Wu @d1 ?_;(repeat clear hK K);repeat refine kq fun K hK=>?_)
  refine WB ?_
  (refine Wu (an @BD (an @hBl @gB)) ?_;(repeat clear hK K);repeat refine kq fun K hK=>?_)
  cases b with
  | true=>
   have hkt:=hkt rfl
   refine WB ?_
   have hks:(Y0 (Y3 Yh Yi dv X.length k)).set k (C.v (Value.string { data:=#[100,105,118,101,114,103,101,110,116] }))=Y0 (Y3 Yh Yi dv X.length (k+1)):=by rw [<- hkt];exact Jz _ _ _
   (refine Cn (an @Gt (an @hkl @hks)) ?_;(repeat clear hK K);repeat refine kq fun K hK=>?_)
   refine WD ?_
   refine hK _ (k+1) (by omega) (by omega) ?_
   simp only [Y9]
   exact WE
  | false=>
   have hkf:=hkf rfl
   refine WC ?_
   (refine Wt ?_;(repeat clear hK K);repeat refine kq fun K hK=>?_)
   refine WD ?_
   refine hK _ (k+1) (by omega) (by omega) ?_
   rw [hkf]
   simp only [Y9]
   exact WE
 have d1:decide ((k:Int)<(X.length:Int))=false:=by simpa using hlt
 have hke:k=X.length:=by omega
 rw [hke] at d1
 rw [hke]
 have hko:=Uh (kd:=Yh) (ke:=Yi) (by kernel_rfl) (by kernel_rfl) (by kernel_rfl) (by kernel_rfl) dv X.length
 have hkl:=Hx Yh Yi dv X.length X.length
 obtain ⟨hnm,_⟩:=U5 (B:=dv) X.length h1
 have hN0:=NC dv h1
 have hC0:=CpC.start hv hD hB
 have hc0:F9 X.length (Xv dv X.length)=(Xh (fun s=>dv.getD s false) X.length).2:=by rw [<- hnm,NA]
 generalize Y3 Yh Yi dv X.length X.length=ky0 at *
 (refine Wu @d1 ?_;(repeat clear hK K);repeat refine kq fun K hK=>?_)
 refine WC ?_
 (refine Wx ?_;repeat clear hK K)
 (refine Wt ?_;(repeat clear hK K);repeat refine kq fun K hK=>?_)
 (refine Ai rfl ?_;intro K1 hK1;refine H4 (a:=1) (ky:=ky0) (fun s=>dv.getD s false) hko (by omega) rfl rfl (by simp only [go_sem,hkl]) rfl (by simp [Fi,AV.nb,A0.nb,C.nb]) ?_;simp only [go_sem];refine hK1 _ ?_;clear hK1 K1)
 rw [hkl,hnm,<- hc0]
 clear hnm hc0
 generalize hc00:Xv dv X.length=c0 at *
 have hN0l:=hN0.len
 (refine Wt ?_;(repeat clear hK K);repeat refine kq fun K hK=>?_)
 simp only [AA,List.length_cons,List.length_nil,Nat.zero_add,List.cons_append,List.nil_append]
 have hf0:(if X.length<=(Ab c0).length then C.t 1 ((Ab c0).take X.length) else C.u)=C.t 1 (Ab c0):=by rw [if_pos (by rw [A4];omega),gE7 (by rw [A4];omega)]
 (refine Au (Bg (r:=⟨3,1,true,A7 c0⟩) 2 (Ab c0) rfl (EM _) (show 0<(1:Nat) by omega)) ?_;simp only [ST.frz,A0.frz,AV.frz,C.frz,Nat.le_refl,List.set_cons_zero,List.set_cons_succ,go_sem,hf0])
 have hSl:=(Ht hv (by omega)).1
 refine A8 (fun x:Nat × List Int × List Value=>{ tm:=[(0,.a (.c (.p 0 0))),(3,.a (.c (.s 1 X.length))),(6,.a (.c (.t 1 (Ab x.2.1)))),(7,.i (F9 X.length x.2.1))],hp:=[.r (Y9 X D (Q.map Int.ofNat) (Y6 (XG D) X.length) dv),.r ⟨9,1,true,Y0 x.2.2⟩],n:=86,pin:=1 }) (fun x=>x.2.1=Xl (C9 X) c0 x.1/\Nrm X.length x.2.1/\CpC X D x.2.1/\x.2.2.length=X.length) (fun x=>X.length - F9 X.length x.2.1) (0,c0,ky0) ?_ ?_ ?_
 ·exact ⟨rfl,hN0,hC0,hkl⟩
 ·refine Le.trans (A9 [0,1] rfl rfl) ?_
  (try simp only [List.set_nil,List.take_nil,List.take_zero,List.map_append,go_sem])
  (try simp only [Fd])
  simp only [Y9]
  exact WE
 clear hk hlt d1 hke hko
 rintro ⟨j,nw,ky⟩ ⟨hit,hN,hC,hkyl⟩ K hK
 simp only at hit hN hC hkyl
 simp only
 have hcn:=KK X.length nw
 have hNl:=hN.len
 have hcn1:1<=F9 X.length nw:=by
  have:=(Cx (fun s=>nw.getD s 0) X.length).rng 0 (by omega)
  unfold F9;omega
 have hnn:=NB (C9 X) nw
 have hnl:=U4 (S:=C9 X) (by rw [hSl];exact hN)
 rw [hSl] at hnn hnl
 have hcn2:=KK X.length (Xk (C9 X) nw)
 have hnc:F9 X.length (Xk (C9 X) nw)=(Xh (Xj (C9 X) nw) X.length).2:=by
  have:=NA (Xj (C9 X) nw) X.length
  unfold Xk;rw [hSl];exact this
 have hnc1:(Xh (Xj (C9 X) nw) X.length).1=Xk (C9 X) nw:=by unfold Xk;rw [hSl]
 have hCn:=hC.next hv (by omega) hD hN
 (refine Wt ?_;(repeat clear hK K);repeat refine kq fun K hK=>?_)
 (refine Ai rfl ?_;intro K1 hK1;refine Di (f:=77) (ids:=[]) (R:=fun r o=>r=.a (.c (.p 5 0))/\∃ tc vc,HS (Y9 X D (Q.map Int.ofNat) (Y6 (XG D) X.length) dv) ⟨9,1,true,Y0 ky⟩ X.length o tc vc/\TA X nw Q Q.length o tc/\TB X nw Q Q.length o vc) rfl rfl (by simp only [go_sem]) (by kernel_rfl) (Un X D nw Q dv (F9 X.length nw) ⟨9,1,true,Y0 ky⟩ (Uw ky) (Fd ky) hv hn hr hD hQ hN hcn1 (by omega)) (fun r outs h=>Hz h.2.choose_spec.choose_spec.1.ok) ?_)
 rintro r G ⟨rfl,tc,vc,hH,hT,hTB⟩
 (simp only [go_sem];refine hK1 _ ?_;clear hK1 K1)
 have gs:=hH.h0
 (refine Wu (an @gs (an @GC (an @A4 @hDl))) ?_;(repeat clear hK K);repeat refine kq fun K hK=>?_)
 refine A8 (fun x:Nat × List Ob × List Value=>{ tm:=[(0,.a (.c (.p 0 0))),(3,.a (.c (.s 1 X.length))),(6,.a (.c (.t 1 (Ab nw)))),(7,.i (F9 X.length nw)),(8,.a (.c (.p 5 0))),(47,.a (.c (.t 1 (Ab D)))),(48,.i X.length),(49,.i x.1)],hp:=x.2.1,n:=86,pin:=1 }) (fun x=>x.1<=X.length/\x.2.2.length=X.length/\(∀ s,s<x.1->∃ L,x.2.2[s]?=some (Jx L)/\KeyOf X nw s L)/\HS (Y9 X D (Q.map Int.ofNat) (Y6 (XG D) X.length) dv) ⟨9,1,true,Y0 x.2.2⟩ X.length x.2.1 tc vc/\TA X nw Q Q.length x.2.1 tc/\TB X nw Q Q.length x.2.1 vc) (fun x=>X.length - x.1) (0,G,ky) ?_ ?_ ?_
 ·exact ⟨by simp,hkyl,fun s hs=>by simp at hs,hH,hT,hTB⟩
 ·exact WE
 clear hH hT hTB gs hkyl
 rintro ⟨k,G,ky⟩ ⟨hk,hkyl,hkys,hH,hT,hTB⟩ K hK
 simp only at hk hkyl hkys hH hT hTB
 simp only
 by_cases hlk:k<X.length
 rotate_left
 ·have d2:decide ((k:Int)<(X.length:Int))=false:=by simpa using hlk
  have hke:k=X.length:=by omega
  have hko:=V4 hv hn hN hkyl (fun s hs=>hkys s (by omega))
  have g0:=hH.h0
  have g1:=hH.hx
  (refine Wu @d2 ?_;(repeat clear hK K);repeat refine kq fun K hK=>?_)
  refine WC ?_
  (refine Wx ?_;repeat clear hK K)
  (refine Wt ?_;(repeat clear hK K);repeat refine kq fun K hK=>?_)
  (refine Ai rfl ?_;intro K1 hK1;refine H4 (a:=1) (ky:=ky) (Xj (C9 X) nw) hko (by omega) rfl rfl (by simp only [go_sem,hkyl]) g1 (by simp [Fi,AV.nb,A0.nb,C.nb]) ?_;simp only [go_sem];refine hK1 _ ?_;clear hK1 K1)
  rw [hkyl,hnc1,<- hnc]
  (refine Wt ?_;(repeat clear hK K);repeat refine kq fun K hK=>?_)
  have hG6:=Br hH.h4
  obtain ⟨lg,hlg⟩:∃ l,G.length=l:=⟨_,rfl⟩
  rw [hlg] at hG6
  simp only [hlg]
  have gn:=Bp G (AA (Xk (C9 X) nw))
  rw [hlg] at gn
  have g0':=(Pre.push G (AA (Xk (C9 X) nw))).at g0
  have g1':=(Pre.push G (AA (Xk (C9 X) nw))).at g1
  generalize G++[AA (Xk (C9 X) nw)]=G2 at *
  refine Au (BG (tm:=[(0,.a (.c (.p 0 0))),(3,.a (.c (.s 1 X.length))),(6,.a (.c (.t 1 (Ab nw)))),(7,.i (F9 X.length nw)),(11,.a (.c (.s lg X.length))),(12,.i (F9 X.length (Xk (C9 X) nw))),(82,.b (((F9 X.length (Xk (C9 X) nw):Nat):Int) == ((F9 X.length nw:Nat):Int)))]) ?_) ?_
  ·simp only [Dg,go_sem];try simp
  have i1:idx [0,1,lg] 1 0=some 1:=by simp [idx]
  have i2:idx [0,1,lg] lg 0=some 2:=by
   have e1:¬ 0=lg:=by omega
   have e2:¬ 1=lg:=by omega
   simp [idx,e1,e2]
  refine Au (A9 [0,1,lg] ?_ rfl) ?_
  ·have e1:¬ 0=lg:=by omega
   have e2:¬ 1=lg:=by omega
   simp [Ba];omega
  have i0:idx [0,1,lg] 0 0=some 0:=rfl
  have hr1:(Ob.r (Y9 X D (Q.map Int.ofNat) (Y6 (XG D) X.length) dv)).ren [0,1,lg]=.r (Y9 X D (Q.map Int.ofNat) (Y6 (XG D) X.length) dv):=by simp [Ob.ren,Y9,C.ren]
  have hr2:(Ob.r ⟨9,1,true,Y0 ky⟩).ren [0,1,lg]=.r ⟨9,1,true,Y0 ky⟩:=by simp [Ob.ren,Fd]
  have hr3:=Gw (Xk (C9 X) nw) [0,1,lg]
  simp only [ST.pick,List.map_cons,List.map_nil,AV.ren,A0.ren,C.ren,AV.i,AV.b,i0,i1,i2,D0 g0',D0 g1',D0 gn,hr1,hr2,hr3]
  by_cases hceq:F9 X.length (Xk (C9 X) nw)=F9 X.length nw
  ·have hfx:Xk (C9 X) nw=nw:=Decidable.byContradiction fun h=>by have:=hnl h;omega
   have d4:(((F9 X.length (Xk (C9 X) nw):Nat):Int) == ((F9 X.length nw:Nat):Int))=true:=by rw [hceq];simp
   simp only [d4]
   refine WB ?_
   (refine Wt ?_;(repeat clear hK K);repeat refine kq fun K hK=>?_)
   ((try refine Av ?_);(try simp only [Ae,AF]);refine B6 (A9 [0] rfl rfl) ?_;(try simp only [List.set_nil,List.take_nil,List.take_zero,List.map_append,go_sem]);((try refine Av ?_);(try refine Aa ?_);(try simp only [Ae,AF]);refine Bj (by first | exact .inl rfl | exact .inr rfl) rfl ?_;simp only [VU,Dy,Du,DL,Tryz.results41,go_sem,true_and,and_true,As,Y9]))
   exact ⟨nw,⟨dv,hB,j,by rw [hc00];exact hit,hfx⟩,hN,rfl⟩
  have hne:Xk (C9 X) nw ≠ nw:=fun h=>hceq (by rw [h])
  have hlt2:=hnl hne
  have d4:(((F9 X.length (Xk (C9 X) nw):Nat):Int) == ((F9 X.length nw:Nat):Int))=false:=by simp only [beq_eq_false_iff_ne,ne_eq];omega
  simp only [d4]
  refine WC ?_
  (refine Wt ?_;(repeat clear hK K);repeat refine kq fun K hK=>?_)
  refine WD ?_
  refine hK _ (j+1,Xk (C9 X) nw,ky) ⟨?_,hnn,hCn,hkyl⟩ (by simp only;omega) ?_
  ·simp only
   rw [show Xl (C9 X) c0 (j+1)=Xk (C9 X) (Xl (C9 X) c0 j) from rfl,<- hit]
  simp only
  have hw2l:=hnn.len
  generalize hw2:Xk (C9 X) nw=w2 at *
  have hf0:(if X.length<=(Ab w2).length then C.t 1 ((Ab w2).take X.length) else C.u)=C.t 1 (Ab w2):=by rw [if_pos (by rw [A4];omega),gE7 (by rw [A4];omega)]
  simp only [AA]
  (refine SO (Bg (r:=⟨3,1,true,A7 w2⟩) 2 (Ab w2) rfl (EM _) (show 0<(1:Nat) by omega)) ?_;simp only [ST.frz,A0.frz,AV.frz,C.frz,Nat.le_refl,List.set_cons_zero,List.set_cons_succ,go_sem,hf0])
  refine Le.trans (A9 [0,1] rfl rfl) ?_
  (try simp only [List.set_nil,List.take_nil,List.take_zero,List.map_append,go_sem])
  (try simp only [Fd])
  simp only [Y9]
  exact WE
 have d2:decide ((k:Int)<(X.length:Int))=true:=by simpa using hlk
 obtain ⟨gD0,hfk,hr1,hr2,hff⟩:=BN hv hD hlk
 have gD:=Am gD0
 have hle:XG D k<=k:=by
  obtain ⟨m,e1,_,_,e4⟩:=hD.2 k hlk
  rw [NG gD0] at e1
  have:=e4 k (.refl _) (.refl _)
  omega
 have g1:=hH.hx
 have hcl:(Y0 ky).length=X.length:=by rw [Gt,hkyl]
 (refine Wu @d2 ?_;(repeat clear hK K);repeat refine kq fun K hK=>?_)
 refine WB ?_
 (refine Wu (an @gD (an @A4 @hDl)) ?_;(repeat clear hK K);repeat refine kq fun K hK=>?_)
 by_cases hek:XG D k=k
 rotate_left
 ·have d3:((k:Int) == ((XG D k:Nat):Int))=false:=by simp only [beq_eq_false_iff_ne,ne_eq];omega
  simp only [d3]
  obtain ⟨L,q1,q2⟩:=hkys (XG D k) (by omega)
  have hko:=q2.cp hv hD hC hlk
  obtain ⟨sb,hsb⟩:∃ b,Jx L=Value.string b:=⟨_,rfl⟩
  rw [hsb] at q1
  have gk:(Y0 ky)[XG D k]?=some (.v (.string sb)):=by simp [Y0,q1]
  refine WC ?_
  (refine Cn (an @g1 (an @hcl (an @gk @Jz))) ?_;(repeat clear hK K);repeat refine kq fun K hK=>?_)
  refine BC (fun G3=>HS (Y9 X D (Q.map Int.ofNat) (Y6 (XG D) X.length) dv) ⟨9,1,true,Y0 (ky.set k (.string sb))⟩ X.length G3 tc vc/\TA X nw Q Q.length G3 tc/\TB X nw Q Q.length G3 vc) ?_ ?_
  ·exact ⟨hH.setK _,hT.set1 _,hTB.set1 _⟩
  rintro G3 ⟨hH3,hT3,hTB3⟩
  simp only
  refine WD ?_
  refine hK _ (k+1,G3,ky.set k (.string sb)) ⟨by simp only;omega,by simp only;rw [List.length_set];exact hkyl,?_,hH3,hT3,hTB3⟩ (by simp only;omega) ?_
  rotate_left
  ·exact WE
  intro s hs
  simp only at hs ⊢
  by_cases e:s=k
  ·subst e
   exact ⟨L,by rw [hsb,gEc (by omega)],hko⟩
  obtain ⟨M,q1,q2⟩:=hkys s (by omega)
  exact ⟨M,by rw [gE5 (Ne.symm e)];exact q1,q2⟩
 rw [hek] at gD ⊢
 have d3:((k:Int) == (k:Int))=true:=by simp
 simp only [d3]
 obtain ⟨j',hj',hQj⟩:=List.getElem_of_mem ((hQ.2.1 k).2 ⟨hlk,hek⟩)
 obtain ⟨x,w,tx1,tx2,tx3,tx4⟩:=hT.2.2 j' k hj' (by rw [gE1 hj',hQj])
 obtain ⟨m,V,ty1,ty2,ty3,ty4⟩:=hTB.2.2 j' k hj' (by rw [gE1 hj',hQj])
 have gW:=Am (show nw[k]?=some (nw.getD k 0) from by rw [gE2,gE1 (by omega)];rfl)
 have hVl:V.length<=2000:=by
  have h:=Da (m:=(List.range 1026).map Int.ofNat) ty4.nd (fun e he=>by
   obtain ⟨p,hp,rfl⟩:=List.mem_map.1 he
   obtain ⟨_,_,_,i,hi,ho⟩:=ty4.ob p hp
   have hr3:=Uv hv ((ty4.ex p.1 i hi).1 ⟨p,hp,rfl,ho⟩)
   exact List.mem_map.2 ⟨p.1.toNat,by rw [List.mem_range];omega,by simp only [Int.ofNat_eq_natCast];omega⟩)
  rw [List.length_map,List.length_map,List.length_range] at h
  omega
 have hkm:=fun VL h1 h2=>KeyOf.mk2 (VL:=VL) hv hN hn tx4 ty4 h1 h2
 generalize nw.getD k 0=x0 at *
 refine WB ?_
 (refine Wu (an @gW (an @A4 @hNl)) ?_;(repeat clear hK K);repeat refine kq fun K hK=>?_)
 (refine Ai rfl ?_;intro K1 hK1;refine Di (f:=78) (ids:=[]) (R:=fun r o=>(∃ VL:List (Int × Nat),WI (VL.map fun q:Int × Nat=>q.1)/\(∀ q,q∈VL↔∃ p∈V,q=(p.1,p.2.2))/\r=.a (.c (.v (Jx (FM x0 w VL)))))/\Pre G o/\o.all Cd=true) rfl rfl (by simp only [go_sem]) (by kernel_rfl) (SM G 5 3 4 X.length k x m w x0 tc vc V hH.h4 hH.h2 hH.h3 hT.1 hTB.1 (by omega) hlk tx1 tx3 tx4.1 ty1 ty3 ty4.nd (fun p hp=>by obtain ⟨_,a2,a3,_⟩:=ty4.ob p hp;exact ⟨a2,a3⟩) hVl hH.ok) (fun r outs h=>Hz h.2.2) ?_)
 rintro r G2 ⟨⟨VL,hV1,hV2,rfl⟩,hP2,hok2⟩
 have hko:=hkm VL hV1 hV2
 obtain ⟨L,hL⟩:∃ L,FM x0 w VL=L:=⟨_,rfl⟩
 rw [hL] at hko ⊢
 obtain ⟨sb,hsb⟩:∃ b,Jx L=Value.string b:=⟨_,rfl⟩
 rw [hsb]
 (simp only [go_sem];refine hK1 _ ?_;clear hK1 K1)
 have hH2:=hH.pre hP2 hok2
 have g2:=hP2.at g1
 (refine Cn (an @g2 (an @hcl @Jz)) ?_;(repeat clear hK K);repeat refine kq fun K hK=>?_)
 refine BC (fun G3=>HS (Y9 X D (Q.map Int.ofNat) (Y6 (XG D) X.length) dv) ⟨9,1,true,Y0 (ky.set k (.string sb))⟩ X.length G3 tc vc/\TA X nw Q Q.length G3 tc/\TB X nw Q Q.length G3 vc) ?_ ?_
 ·exact ⟨hH2.setK _,(hT.pre hP2).set1 _,(hTB.pre hP2).set1 _⟩
 rintro G3 ⟨hH3,hT3,hTB3⟩
 simp only
 refine WD ?_
 refine hK _ (k+1,G3,ky.set k (.string sb)) ⟨by simp only;omega,by simp only;rw [List.length_set];exact hkyl,?_,hH3,hT3,hTB3⟩ (by simp only;omega) ?_
 rotate_left
 ·exact WE
 intro s hs
 simp only at hs ⊢
 by_cases e:s=k
 ·subst e
  exact ⟨L,by rw [hsb,gEc (by omega)],hko⟩
 obtain ⟨M,q1,q2⟩:=hkys s (by omega)
 exact ⟨M,by rw [gE5 (Ne.symm e)];exact q1,q2⟩
theorem WkC.uniq {R:List (List Ar)} {c d:List Int} (h1:WkC R c) (h2:WkC R d):c=d:=by
 obtain ⟨B,b1,b2⟩:=h1
 obtain ⟨B',b3,b4⟩:=h2
 have e:=b1.uniq b3
 subst e
 exact b2.uniq b4
set_option maxHeartbeats 2000000 in
theorem Ux (R:List (List Ar)) (hv:Bv R=true) (hn:R.length<=64) (hr:∀ r∈R,r.length<=1000000):FC Tryz.prog 20 [B7 R] [] (fun r o=>∃ c,WkC R c/\Nrm R.length c/\o=[]/\r=As c):=by
 refine A6 Tryz.func20 rfl (by rw [Tryz.ntmps20];simp) ?_
 rw [Tryz.ntmps20]
 simp only [Bf,B7]
 have hlo:BE R=true:=gEg (gE4 hv).1
 have hbL:L6 [R]=R:=Q4 R
 (refine Wt ?_;(repeat clear hK K);repeat refine kq fun K hK=>?_)
 (refine Wy (CD R (by omega) (fun r h=>by have:=hr r h;omega)) ?_;intro K1 hK1)
 rintro _ _ ⟨rfl,rfl⟩
 (refine Wz ?_;clear hK1 K1)
 rw [hv]
 (refine Wu @Bool.not_true ?_;(repeat clear hK K);repeat refine kq fun K hK=>?_)
 refine WC ?_
 (refine Wt ?_;(repeat clear hK K);repeat refine kq fun K hK=>?_)
 have hf:(if 1<=(Ya [R]).length then C.t 1 ((Ya [R]).take 1) else C.u)=C.t 1 (Ya [R]):=rfl
 (refine BS (Bg (r:=⟨25,1,true,[.t 1 (Ah R)]⟩) 1 (Ya [R]) rfl ⟨.inl rfl,trivial⟩ (show 0<(1:Nat) by omega)) ?_;simp only [ST.frz,A0.frz,AV.frz,C.frz,Nat.le_refl,List.set_cons_zero,List.set_cons_succ,go_sem,hf])
 have hns:=SI [R] (by simp) (by simp) (by simpa using hv) (by simpa using hr) (by have:=(gE4 hlo).2.1;simpa using this) (by have:=(gE4 hlo).2.2.1;simpa using this)
 rw [hbL] at hns
 (refine Wy hns ?_;intro K1 hK1)
 rintro _ _ ⟨rfl,D,Q,B,_,hD,hB,hQ,rfl⟩
 simp only [Y9]
 (refine Wz ?_;clear hK1 K1)
 (refine Wt ?_;(repeat clear hK K);repeat refine kq fun K hK=>?_)
 (refine Ai rfl ?_;intro K1 hK1;refine AH (ids:=[]) [2] (T6 R D Q B hv hn hr hD hQ hB) rfl rfl (by simp only [go_sem]) (by first | assumption | kernel_rfl) rfl rfl (by (simp only [List.map_append,List.append_nil,go_sem]) <;> rfl) (by (simp only [VS,Y9,go_sem]) <;> rfl) ?_ ?_)
 ·rintro _ _ ⟨c,_,_,rfl,rfl⟩;rfl
 rintro _ _ ⟨c,hc,hN,rfl,rfl⟩
 simp only [Y9]
 (refine Wz ?_;clear hK1 K1)
 (refine Wt ?_;(repeat clear hK K);repeat refine kq fun K hK=>?_)
 ((try refine Av ?_);(try simp only [Ae,AF]);refine B6 (A9 [] rfl rfl) ?_;(try simp only [List.set_nil,List.take_nil,List.take_zero,List.map_append,go_sem]);((try refine Av ?_);(try refine Aa ?_);(try simp only [Ae,AF]);refine Bj (by first | exact .inl rfl | exact .inr rfl) rfl ?_;simp only [VU,Dy,Du,DL,Tryz.results20,go_sem,true_and,and_true,As]))
 exact ⟨c,hc,hN,rfl⟩
def Yq (R:List (List Ar)) (B:List Bool) (c:List Int) (s:Nat):Bool:=B.getD s false || (!Xd (R.getD s []) && c.getD ((R.getD s []).headD (0,0)).2.toNat 0 != c.getD s 0)
set_option maxHeartbeats 4000000 in
theorem QC (R:List (List Ar)) (hv:Bv R=true) (hn:R.length<=64) (hr:∀ r∈R,r.length<=1000000):FC Tryz.prog 15 [B7 R] [] (fun r o=>∃ B c,∃ p:Nat->Bool,DvL R B/\WkC R c/\Nrm R.length c/\(∀ u,u<R.length->(p u=true↔Rc (WP false R) 0 u))/\o=[]/\r=.b ((FJ R.length p).all fun s=>!Yq R B c s)):=by
 refine A6 Tryz.func15 rfl (by rw [Tryz.ntmps15];simp) ?_
 rw [Tryz.ntmps15]
 have hlo:BE R=true:=gEg (gE4 hv).1
 have h1:1<=R.length:=(gE4 hlo).1
 have hva:=CD R (by omega) (fun r h=>by have:=hr r h;omega)
 rw [hv] at hva
 have hdv:=Nn R hv (by omega) hr
 have hwc:=Ux R hv hn hr
 have hgr:=Nx R false [0] hv (by omega) hr (by simp;omega) (by simp)
 have e0:([0].map Int.ofNat)=[(0:Int)]:=rfl
 rw [e0] at hgr
 have hst:=fun k (h:k<R.length)=>Iw R k h (by omega) hr
 simp only [Bf,B7,As] at hva hdv hwc hgr hst ⊢
 (refine Wt ?_;(repeat clear hK K);repeat refine kq fun K hK=>?_)
 (refine Wy hva ?_;intro K1 hK1)
 rintro _ _ ⟨rfl,rfl⟩
 (refine Wz ?_;clear hK1 K1)
 (refine Wu @Bool.not_true ?_;(repeat clear hK K);repeat refine kq fun K hK=>?_)
 refine WC ?_
 (refine Wt ?_;(repeat clear hK K);repeat refine kq fun K hK=>?_)
 (refine Bz [] [(0,1,1),(2,1,3),(1,2,0),(3,2,0),(4,2,0),(5,2,0)] (by kernel_rfl) (by kernel_rfl) (by intro c st h;simp [Ae,AF,VT] at h) ?_)
 (refine Wr ?_;repeat clear hK K)
 (refine Wf rfl rfl ?_;intro K1 hK1;refine AZ ?_;refine xv [] (hdv) ?_ ?_)
 ·rintro _ _ ⟨_,_,rfl,rfl⟩ i o hi hl;simp at hl
 rintro _ _ ⟨B,hB,rfl,rfl⟩
 (refine Wz ?_;clear hK1 K1)
 (refine Wr ?_;repeat clear hK K)
 (refine Wf rfl rfl ?_;intro K1 hK1;refine AZ ?_;refine xv [] (hwc) ?_ ?_)
 ·rintro _ _ ⟨_,_,_,rfl,rfl⟩ i o hi hl;simp at hl
 rintro _ _ ⟨c,hc,hN,rfl,rfl⟩
 (refine Wz ?_;clear hK1 K1)
 (refine Wr ?_;repeat clear hK K)
 (refine Wg rfl rfl rfl ?_;intro K1 hK1;refine AP rfl ?_;simp only [go_sem];(first | refine hK1 _ ?_ | refine AD (hK1 _ ?_));clear hK1 K1)
 (refine Wg rfl rfl rfl ?_;intro K1 hK1;refine AP rfl ?_;simp only [go_sem];(first | refine hK1 _ ?_ | refine AD (hK1 _ ?_));clear hK1 K1)
 (refine Wr ?_;repeat clear hK K)
 (refine Wt ?_;(repeat clear hK K);repeat refine kq fun K hK=>?_)
 (refine BS (Bg (r:=⟨3,1,true,A7 [(0:Int)]⟩) 1 (Ab [(0:Int)]) rfl (EM _) (show 0<(1:Nat) by omega)) ?_;simp only [ST.frz,A0.frz,AV.frz,C.frz,Nat.le_refl,List.set_cons_zero,List.set_cons_succ,go_sem,show (Ab [(0:Int)]).take 1=Ab [(0:Int)] from rfl])
 (refine Wy hgr ?_;intro K1 hK1)
 rintro _ _ ⟨p,hp,rfl,rfl⟩
 obtain ⟨M,hM⟩:∃ M,FJ R.length p=M:=⟨_,rfl⟩
 have hend:∀ v,v=(M.all fun s=>!Yq R B c s)->∃ B c,∃ p:Nat->Bool,DvL R B/\WkC R c/\Nrm R.length c/\(∀ u,u<R.length->(p u=true↔Rc (WP false R) 0 u))/\([]:List Ob)=[]/\AV.b v=.b ((FJ R.length p).all fun s=>!Yq R B c s):=fun v h=>⟨B,c,p,hB,hc,hN,fun u hu=>by rw [hp u hu];simp,rfl,by rw [hM,h]⟩
 have hMl:∀ s∈M,s<R.length:=fun s h=>by rw [<- hM] at h;exact (DT.1 h).1
 have hMn:M.length<=R.length:=by
  rw [<- hM]
  unfold FJ
  exact Nat.le_trans (List.length_filter_le _ _) (by rw [List.length_range];exact Nat.le_refl _)
 rw [hM]
 (refine Wz ?_;clear hK1 K1)
 (refine Wu (an @A4 @List.length_map.{0,0}) ?_;(repeat clear hK K);repeat refine kq fun K hK=>?_)
 refine A8 (fun k:Nat=>{ tm:=[(1,.a (.c (.p 0 0))),(3,.a (.c (.t 1 (X6 B)))),(4,.a (.c (.t 1 (Ab c)))),(16,.a (.c (.t 1 (Ab (M.map Int.ofNat))))),(17,.i M.length),(18,.i k)],hp:=[.r ⟨25,1,false,[.t 1 (Ah R)]⟩],n:=51,pin:=0 }) (fun k=>k<=M.length/\∀ s∈M.take k,Yq R B c s=false) (fun k=>M.length - k) 0 ?_ ?_ ?_
 ·exact ⟨by omega,by simp⟩
 ·refine Le.trans (A9 [0] rfl rfl) ?_
  (try simp only [List.set_nil,List.take_nil,List.take_zero,List.map_append,go_sem])
  exact WE
 rintro k ⟨hk,hall⟩ K hK
 by_cases hlt:k<M.length
 rotate_left
 ·have d1:decide ((k:Int)<(M.length:Int))=false:=by simpa using hlt
  have hke:k=M.length:=by omega
  subst hke
  rw [List.take_length] at hall
  have hv1:(true:Bool)=(M.all fun s=>!Yq R B c s):=by
   refine (List.all_eq_true.2 fun s hs=>?_).symm
   rw [hall s hs];rfl
  (refine Wu @d1 ?_;(repeat clear hK K);repeat refine kq fun K hK=>?_)
  refine WC ?_
  (refine Wx ?_;repeat clear hK K)
  (refine Wt ?_;(repeat clear hK K);repeat refine kq fun K hK=>?_)
  refine WF [] Tryz.results15 ?_
  obtain ⟨B',c',p',a1,a2,a3,a4,_,a6⟩:=hend _ hv1
  exact ⟨B',c',p',a1,a2,a3,a4,a6⟩
 have d1:decide ((k:Int)<(M.length:Int))=true:=by simpa using hlt
 have hsl:=hMl _ (gE6 hlt)
 have gM:=Am (show (M.map Int.ofNat)[k]?=some ((M[k]:Nat):Int) from by rw [List.getElem?_map,gE1 hlt];rfl)
 have htk:=gE8 hlt
 have hks:=gE6 hlt
 generalize M[k]=s at *
 have gB:=F7 (show B[s]?=some (B.getD s false) from by rw [gE2,gE1 (by rw [hB.1];exact hsl)];rfl)
 have gR:=Ag (gE1 hsl)
 (refine Wu @d1 ?_;(repeat clear hK K);repeat refine kq fun K hK=>?_)
 refine WB ?_
 (refine Wu (an @gM (an @A4 @List.length_map.{0,0})) ?_;(repeat clear hK K);repeat refine kq fun K hK=>?_)
 (refine Bz [] [(0,0,0),(1,0,0),(2,0,0),(3,1,7),(4,0,0),(5,1,7),(6,0,0),(7,2,0),(8,0,0),(9,0,0),(10,0,0),(11,0,0),(12,1,27),(13,0,0),(14,0,0),(15,1,27),(16,0,0),(17,0,0),(18,1,27),(19,0,0),(20,1,27),(21,0,0),(22,0,0),(23,0,0),(24,1,27),(25,0,0),(26,0,0),(27,2,0)] (by kernel_rfl) (by kernel_rfl) (by intro c st h;simp [Ae,AF,VT] at h) ?_)
 have hsM:s∈M:=hks
 have hRs:R.getD s []=R[s]:=by rw [gE2,gE1 hsl];rfl
 have hno:Yq R B c s=true->(false:Bool)=(M.all fun s=>!Yq R B c s):=fun h=>by
  symm
  rw [List.all_eq_false]
  exact ⟨s,hsM,by rw [h];simp⟩
 have hgo:Yq R B c s=false->k+1<=M.length/\∀ x∈M.take (k+1),Yq R B c x=false:=fun h=>by
  refine ⟨by omega,fun x hx=>?_⟩
  rw [htk] at hx
  rcases List.mem_append.1 hx with h2 | h2
  ·exact hall x h2
  simp only [List.mem_singleton] at h2;rw [h2];exact h
 cases hb:B.getD s false with
 | true=>
  (refine Ws (an @gB (an @hb (an @BD @hB.1))) ?_;repeat clear hK K)
  (refine Wg rfl rfl rfl ?_;intro K1 hK1;refine AP rfl ?_;simp only [go_sem];(first | refine hK1 _ ?_ | refine AD (hK1 _ ?_));clear hK1 K1)
  (refine Wr ?_;repeat clear hK K)
  refine WB ?_
  (refine Wt ?_;(repeat clear hK K);repeat refine kq fun K hK=>?_)
  refine WF [] Tryz.results15 ?_
  obtain ⟨B',c',p',a1,a2,a3,a4,_,a6⟩:=hend _ (hno (by unfold Yq;rw [hb];rfl))
  exact ⟨B',c',p',a1,a2,a3,a4,a6⟩
 | false=>
  (refine Ws (an @gB (an @hb (an @BD @hB.1))) ?_;repeat clear hK K)
  (refine MD rfl rfl rfl (by simp only [go_sem] <;> rfl) ?_;intro K1 hK1;refine AZ ?_;refine xv [] (hst s hsl) ?_ ?_)
  ·rintro _ _ ⟨rfl,rfl⟩ i o hi hl;simp at hl
  rintro _ _ ⟨rfl,rfl⟩
  (refine Wz ?_;clear hK1 K1)
  cases hq:Xd R[s] with
  | true=>
   (refine Ws (an @Bool.not_true @Bool.false_eq_true) ?_;repeat clear hK K)
   (refine Wg rfl rfl rfl ?_;intro K1 hK1;refine AP rfl ?_;simp only [go_sem,Bool.not_true,Bool.false_eq_true];(first | refine hK1 _ ?_ | refine AD (hK1 _ ?_));clear hK1 K1)
   (refine Wr ?_;repeat clear hK K)
   refine WC ?_
   (refine Wt ?_;(repeat clear hK K);repeat refine kq fun K hK=>?_)
   refine WD ?_
   refine hK _ (k+1) (hgo (by unfold Yq;rw [hb,hRs,hq];rfl)) (by omega) ?_
   exact WE
  | false=>
   obtain ⟨a,q,hrow⟩:∃ a q,R[s]=a :: q:=by
    cases e:R[s] with
    | nil=>rw [e] at hq;simp [Xd] at hq
    | cons a q=>exact ⟨a,q,rfl⟩
   have hab:=EJ hv hsl (a:=a) (by rw [hRs,hrow];exact List.mem_cons_self)
   obtain ⟨e,t⟩:=a
   obtain ⟨u,rfl⟩:∃ u:Nat,t=(u:Int):=⟨t.toNat,by omega⟩
   have hul:u<R.length:=by omega
   have hcl:=hN.len
   have g1:=Am (show c[u]?=some (c.getD u 0) from by rw [gE2,gE1 (by omega)];rfl)
   have g2:=Am (show c[s]?=some (c.getD s 0) from by rw [gE2,gE1 (by omega)];rfl)
   rw [hrow] at gR
   have hval:Yq R B c s=(c.getD u 0 != c.getD s 0):=by
    unfold Yq
    rw [hb,hRs,hq,hrow]
    simp
   (refine Ws (an @gR (an @g1 (an @g2 (an @A4 (an @hcl (an @A3 (an @A2 (an @List.length_cons.{0} @Bool.not_false)))))))) ?_;repeat clear hK K)
   (refine Wg rfl rfl rfl ?_;intro K1 hK1;refine AP rfl ?_;simp only [go_sem];(first | refine hK1 _ ?_ | refine AD (hK1 _ ?_));clear hK1 K1)
   (refine Wr ?_;repeat clear hK K)
   (refine At ?_;intro X Y hX hY;simp only [go_sem])
   refine ⟨fun h=>hX ?_,fun h=>hY ?_⟩
   rotate_left
   ·clear hX hY X Y
    (refine Wt ?_;(repeat clear hK K);repeat refine kq fun K hK=>?_)
    refine WD ?_
    refine hK _ (k+1) (hgo (hval.trans h)) (by omega) ?_
    exact WE
   clear hX hY X Y
   (refine Wt ?_;(repeat clear hK K);repeat refine kq fun K hK=>?_)
   refine WF [] Tryz.results15 ?_
   obtain ⟨B',c',p',a1,a2,a3,a4,_,a6⟩:=hend _ (hno (hval.trans h))
   exact ⟨B',c',p',a1,a2,a3,a4,a6⟩
end Go.Proofs.YtjijjfkalheokaaGreatDoor
