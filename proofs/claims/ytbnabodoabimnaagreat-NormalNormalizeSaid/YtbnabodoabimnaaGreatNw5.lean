/- Lemmas. -/
import Derived.Test.YtbnabodoabimnaaGreatZk
import Derived.Test.YtbnabodoabimnaaGreatNw3
import Derived.Test.YtbnabodoabimnaaGreatG67
import Derived.Test.YtbnabodoabimnaaGreatG45
import Derived.Test.YtbnabodoabimnaaGreatG70
import Derived.Test.YtbnabodoabimnaaGreatMF
namespace Go.Proofs.YtbnabodoabimnaaGreat
set_option linter.unusedVariables false
set_option linter.unusedSimpArgs false
open Go.RowKit
set_option maxRecDepth 100000
attribute [local go_sem] lga C.pl C.one
def Fy (m:Int):Bool:=m == 1 || m == 2 || m == 3
theorem Iq (m:Int):FC Tryz.prog 42 [.i m] [] (fun r o=>o=[]/\r=.b (Fy m)):=by
 refine A7 Tryz.func42 rfl (by rw [Tryz.ntmps42];simp) ?_
 rw [Tryz.ntmps42]
 simp only [B4]
 cases h1:(m == 1) with
 | true=>
  (refine aj @h1 ?_;(repeat clear hK K);repeat refine kq fun K hK=>?_)
  ((try refine Ak ?_);(try simp only [Ad,Ay]);refine AB (A8 [] rfl rfl) ?_;(try simp only [Yn,go_sem]);((try refine Ak ?_);(try refine Aa ?_);(try simp only [Ad,Ay]);refine AN (by first | exact .inl rfl | exact .inr rfl) rfl ?_;simp only [Vm,Cq,Ck,Cx,Tryz.results42,go_sem,true_and,and_true,Fy,h1,Bool.true_or]))
 | false=>
  cases h2:(m == 2) with
  | true=>
   (refine aj (an @h1 @h2) ?_;(repeat clear hK K);repeat refine kq fun K hK=>?_)
   ((try refine Ak ?_);(try simp only [Ad,Ay]);refine AB (A8 [] rfl rfl) ?_;(try simp only [Yn,go_sem]);((try refine Ak ?_);(try refine Aa ?_);(try simp only [Ad,Ay]);refine AN (by first | exact .inl rfl | exact .inr rfl) rfl ?_;simp only [Vm,Cq,Ck,Cx,Tryz.results42,go_sem,true_and,and_true,Fy,h1,h2,Bool.true_or,gA6]))
  | false=>
   (refine aj (an @h1 @h2) ?_;(repeat clear hK K);repeat refine kq fun K hK=>?_)
   ((try refine Ak ?_);(try simp only [Ad,Ay]);refine AB (A8 [] rfl rfl) ?_;(try simp only [Yn,go_sem]);((try refine Ak ?_);(try refine Aa ?_);(try simp only [Ad,Ay]);refine AN (by first | exact .inl rfl | exact .inr rfl) rfl ?_;simp only [Vm,Cq,Ck,Cx,Tryz.results42,go_sem,true_and,and_true,Fy,h1,h2,gA6]))
theorem NC (m:Int):FC Tryz.prog 46 [.i m] [] (fun r o=>o=[]/\r=.b (Fy m)):=by
 refine A7 Tryz.func46 rfl (by rw [Tryz.ntmps46];simp) ?_
 rw [Tryz.ntmps46]
 simp only [B4]
 cases h1:(m == 1) with
 | true=>
  (refine aj @h1 ?_;(repeat clear hK K);repeat refine kq fun K hK=>?_)
  ((try refine Ak ?_);(try simp only [Ad,Ay]);refine AB (A8 [] rfl rfl) ?_;(try simp only [Yn,go_sem]);((try refine Ak ?_);(try refine Aa ?_);(try simp only [Ad,Ay]);refine AN (by first | exact .inl rfl | exact .inr rfl) rfl ?_;simp only [Vm,Cq,Ck,Cx,Tryz.results46,go_sem,true_and,and_true,Fy,h1,Bool.true_or]))
 | false=>
  cases h2:(m == 2) with
  | true=>
   (refine aj (an @h1 @h2) ?_;(repeat clear hK K);repeat refine kq fun K hK=>?_)
   ((try refine Ak ?_);(try simp only [Ad,Ay]);refine AB (A8 [] rfl rfl) ?_;(try simp only [Yn,go_sem]);((try refine Ak ?_);(try refine Aa ?_);(try simp only [Ad,Ay]);refine AN (by first | exact .inl rfl | exact .inr rfl) rfl ?_;simp only [Vm,Cq,Ck,Cx,Tryz.results46,go_sem,true_and,and_true,Fy,h1,h2,Bool.true_or,gA6]))
  | false=>
   (refine aj (an @h1 @h2) ?_;(repeat clear hK K);repeat refine kq fun K hK=>?_)
   ((try refine Ak ?_);(try simp only [Ad,Ay]);refine AB (A8 [] rfl rfl) ?_;(try simp only [Yn,go_sem]);((try refine Ak ?_);(try refine Aa ?_);(try simp only [Ad,Ay]);refine AN (by first | exact .inl rfl | exact .inr rfl) rfl ?_;simp only [Vm,Cq,Ck,Cx,Tryz.results46,go_sem,true_and,and_true,Fy,h1,h2,gA6]))
theorem ND {R:List (List Ar)} {p:Nat->Bool} (h:∀ u,u<R.length->(p u=true↔∃ v∈[0],Rc (Wi true R) v u)):DV R.length p=WL R 0:=by
 refine G0 (Bu _ _) (Bu _ _) fun u=>?_
 rw [BI]
 show _↔u∈WL R 0
 rw [CZ]
 refine and_congr_right fun hu=>?_
 rw [h u hu]
 simp
theorem G5 (f:List Nat) (L:List Xh):(cN L).map (C.ren f)=cN L:=by
 induction L with
 | nil=>rfl
 | cons x l ih=>rw [show cN (x :: l)=Xp x++cN l from rfl,gAT,ih];rfl
def UK (R:List (List Ar)) (m:Int) (r:AV):Prop:=
 (Fy m=true/\C7 R=true/\∃ p,PreE R m p/\r=.tup [.c (.t 3 (tN p.2)),.c (.t 1 (Az (Xu p.1))),.c (.v (.int .i64 0))])
 \/ (¬ (Fy m=true/\C7 R=true)/\r=.tup [.c (.v (.slice none 0 0)),.c (.v (.slice none 0 0)),.c (.v (.int .i64 1))])
theorem Ho {R:List (List Ar)} {S:List (List Nat)} (hS:StI R S) (hbd:∀ r∈R,∀ a∈r,0<=a.1/\a.1<=1025) (m:Int) {X:List Nat} (hX:ClS R X):(Xn R m X S).1.1.length<=1026:=by
 unfold Xn
 split
 ·simp
 have:=ArI.all hS X (Xf R X)
 have h2:=NB hbd hX.lt
 have h3:(Xl R X (Xf R X) S).1.length=(Xf R X).length:=by rw [<- this.ev,gAN];rw [this.ev]
 simp only
 omega
theorem DvL.ex (R:List (List Ar)):∃ B,DvL R B:=⟨(List.range R.length).map fun s=>@decide (Dv R s) (Classical.propDecidable _),by simp,fun s hs=>by simp [gE2,gAC,List.getElem?_range hs]⟩
set_option maxHeartbeats 8000000 in
theorem NE (R:List (List Ar)) (m:Int) (hn:R.length<=7) (hr:∀ r∈R,r.length<=10000):FC Tryz.prog 37 [Ba R,.i m] [] (fun r o=>o=[]/\UK R m r):=by
 refine A7 Tryz.func37 rfl (by rw [Tryz.ntmps37];simp) ?_
 rw [Tryz.ntmps37]
 simp only [B4,Ba]
 (refine ai ?_;(repeat clear hK K);repeat refine kq fun K hK=>?_)
 refine Yt (Iq m) ?_
 cases hm:Fy m with
 | false=>
  (refine aj @gA8 ?_;(repeat clear hK K);repeat refine kq fun K hK=>?_)
  refine W2 ?_
  (refine ai ?_;(repeat clear hK K);repeat refine kq fun K hK=>?_)
  refine W6 [] Tryz.results37 ?_
  exact .inr ⟨by simp [hm],rfl⟩
 | true=>
  (refine aj @gA9 ?_;(repeat clear hK K);repeat refine kq fun K hK=>?_)
  (refine AY rfl rfl (by simp only [go_sem] <;> rfl) ?_;intro K1 hK1;refine (Av (ids:=[]) (H5 R (by omega) (fun r h=>by have:=hr r h;omega)) rfl rfl (by simp only [go_sem]) (by kernel_rfl) (by (simp only [gAk,go_sem]) <;> rfl) ?_).stp)
  rintro _ _ ⟨rfl,rfl⟩
  (refine W1 ?_;clear hK1 K1)
  cases hv:C7 R with
  | false=>
   (refine aj @gA8 ?_;(repeat clear hK K);repeat refine kq fun K hK=>?_)
   refine W2 ?_
   (refine ai ?_;(repeat clear hK K);repeat refine kq fun K hK=>?_)
   refine W6 [] Tryz.results37 ?_
   exact .inr ⟨by simp [hv],rfl⟩
  | true=>
   (refine aj @gA9 ?_;(repeat clear hK K);repeat refine kq fun K hK=>?_)
   refine W3 ?_
   (refine ai ?_;(repeat clear hK K);repeat refine kq fun K hK=>?_)
   obtain ⟨B,hB⟩:=DvL.ex R
   have hlo:BZ R=true:=gEg (gE4 hv).1
   have hr6:∀ r∈R,r.length<=1000000:=fun r h=>by have:=hr r h;omega
   have hfin:∀ st',Le st' { tm:=[(7,.a (.c (.p 0 0)))],hp:=[.r ⟨100,6,false,[.t 1 (AK R),.v (.int .i64 m),.p 1 0,.t 1 (Ws B),.m 3,.v (.slice none 0 0)]⟩,Wy R 2 0,.r ⟨3,1,true,A9 (List.replicate R.length 0)⟩,.m []],n:=78,pin:=0 }->K st':=by
    intro st' hl
    refine hK _ (As hl ?_)
    clear hl hK
    have hR1:1<=R.length:=(gE4 hlo).1
    have hF0:∀ v∈[0],v<R.length:=fun v hv=>by rw [gBb.1 hv];exact hR1
    have hsb0:∀ x∈List.replicate R.length (0:Int),x<=0:=fun x hx=>by rw [List.eq_of_mem_replicate hx];exact gAc 0
    have hWc:=ClS.zero R
    have hst0:=StI.zero R
    simp only [Wy]
    refine As (S7 0 5 37 1 rfl rfl (by decide)) ?_
    simp only [go_sem]
    (refine ai ?_;(repeat clear hK K);repeat refine kq fun K hK=>?_)
    (refine Bw (B6 (r:=⟨3,1,true,A9 [(0:Int)]⟩) 5 (Ac [(0:Int)]) rfl (ES _) (show 0<(1:Nat) by omega)) ?_;simp only [ST.frz,A0.frz,AV.frz,C.frz,gBu,gBj,gBi,go_sem,Yw,A2,gAJ,gAO])
    (refine ai ?_;(repeat clear hK K);repeat refine kq fun K hK=>?_)
    (refine Aj rfl ?_;intro K1 hK1;refine Ax (ids:=[]) [1,2] (Ie R true [0] hlo (by omega) hr6 hF0 (by decide) (List.replicate R.length 0) 0 gAP hsb0 (by decide) (by decide)) rfl rfl (by simp only [go_sem]) (by first | assumption | kernel_rfl) rfl rfl (by (simp only [gAT,gAk,go_sem]) <;> rfl) (by (simp only [Vk,Wy,A5,go_sem]) <;> rfl) ?_ ?_)
    ·rintro _ _ ⟨_,_,_,_,_,rfl,rfl⟩;rfl
    rintro _ _ ⟨seen1,hse1,hsb1,p1,hp1,rfl,rfl⟩
    (simp only [Ap,AC,Wy,AL,Ys,go_sem];refine hK1 _ ?_;clear hK1 K1)
    rw [ND hp1]
    have hpz:B8 R m 0=([WL R 0],[]):=rfl
    have hWl:=hWc.len
    have hWx:Xw (WL R 0):=fun u hu=>by have:=hWc.lt u hu;omega
    have hPz:=PrI.zero R m
    rw [hpz] at hPz
    have hnd:Xk [] (WL R 0)=[WL R 0]:=by simp [Xk]
    have hbn:=Nv R m B [] (WL R 0) (by simp) hWx (by decide) (by omega) 1 seen1
    rw [hnd,show Xv [] 0=[] from rfl] at hbn
    obtain ⟨M0,hM0⟩:=C1 [WL R 0] 0
    rw [hM0] at hbn
    obtain ⟨W,hW⟩:∃ W,W=WL R 0:=⟨_,rfl⟩
    rw [<- hW] at hbn hWl hWx hM0 hpz ⊢
    have htk3:(Ac (W.map Int.ofNat)).take W.length=Ac (W.map Int.ofNat):=gE7 (by rw [A2,gAN];exact gBu _)
    (refine Bw (B6 (r:=⟨3,1,true,A9 (W.map Int.ofNat)⟩) 6 (Ac (W.map Int.ofNat)) rfl (ES _) (show 0<(1:Nat) by omega)) ?_;simp only [ST.frz,A0.frz,AV.frz,C.frz,gBu,gBj,gBi,go_sem,A2,gAN,htk3])
    (refine ai ?_;(repeat clear hK K);repeat refine kq fun K hK=>?_)
    (refine Aj rfl ?_;intro K1 hK1;refine Ax (ids:=[]) [0,1,2,3] (hbn) rfl rfl (by simp only [go_sem]) (by first | assumption | kernel_rfl) rfl rfl (by (simp only [gAT,gAk,go_sem]) <;> rfl) (by (simp only [Vk,Wy,Xx,A5,gAW,gAb,go_sem]) <;> rfl) ?_ ?_)
    ·rintro _ _ ⟨rfl,rfl⟩;rfl
    rintro _ _ ⟨rfl,rfl⟩
    (simp only [Ap,AC,Wy,Xx,AL,gAW,gAb,Ys,go_sem];refine hK1 _ ?_;clear hK1 K1)
    (refine ai ?_;(repeat clear hK K);repeat refine kq fun K hK=>?_)
    refine As (BJ 8 35 3 ?_) ?_
    ·simp only [go_sem]
    refine As (A8 [0,1,2,3,7] rfl rfl) ?_
    simp only [go_sem,A5,gAW,gAb]
    refine Ab (fun x:Nat × List Int × Int × Int=>{ tm:=[(7,.a (.c (.p 0 0))),(8,.a (.c (.s 4 x.1))),(9,.i x.2.2.2),(10,.i x.1)],hp:=[.r (Xx R m B (B8 R m x.1).1),Wy R 2 x.2.2.1,.r ⟨3,1,true,A9 x.2.1⟩,.m (Xv (B8 R m x.1).1 0),.r ⟨35,3,true,cN (B8 R m x.1).2⟩],n:=78,pin:=0 }) (fun x=>PrI R x.1 (B8 R m x.1)/\x.2.1.length=R.length/\(∀ y∈x.2.1,y<=x.2.2.1)/\0<=x.2.2.1/\x.2.2.1<=1+3000*(x.1:Int)/\262144 - 1026*(x.1:Int)<=x.2.2.2/\x.2.2.2<=262144) (fun x=>128 - x.1) (0,seen1,1,262144) ?_ ?_ ?_
    ·show PrI R 0 (B8 R m 0)/\seen1.length=R.length/\(∀ y∈seen1,y<=1)/\(0:Int)<=1/\(1:Int)<=1+3000*((0:Nat):Int)/\(262144:Int) - 1026*((0:Nat):Int)<=262144/\(262144:Int)<=262144
     refine ⟨?_,hse1,fun y hy=>by have:=hsb1 y hy;omega,by decide,by decide,by decide,by decide⟩
     rw [hpz,hW]
     exact hPz
    ·have hcN:cN []=[]:=rfl
     simp only [hpz,hM0,hcN,Xx,Wy]
     exact W5
    rintro ⟨k,sn,rd,lf⟩ ⟨hP,hsn,hsb,hs0,hsr,hl1,hl2⟩ K hK
    simp only at hP hsn hsb hs0 hsr hl1 hl2 hK ⊢
    have hTl:=hP.st.len
    have hT7:(B8 R m k).1.length<=128:=gBv hTl (Nat.pow_le_pow_right (by omega) hn)
    by_cases hlt:k<(B8 R m k).1.length
    rotate_left
    ·have hend:(B8 R m k).1.length=k:=by have:=hP.le;omega
     have hPn:=hP.n
     have hpe:PreE R m (B8 R m k):=⟨k,rfl,hend,hP⟩
     obtain ⟨M1,hM1⟩:=C1 (B8 R m k).1 0
     rw [hM1]
     generalize B8 R m k=p at *
     obtain ⟨T,N⟩:=p
     simp only at hend hPn hT7 ⊢
     have d1:decide ((k:Int)<(T.length:Int))=false:=gBK (by omega)
     have htkN:(tN N).take (k*3)=tN N:=by rw [<- hPn];exact Nn N
     simp only [Wy,Xx]
     (refine aj (an @Ae (an @CQ @d1)) ?_;(repeat clear hK K);repeat refine kq fun K hK=>?_)
     refine W3 ?_
     (refine VZ ?_;repeat clear hK K)
     (refine As (B6 (r:=⟨35,3,true,cN N⟩) 4 (tN N) rfl (Pu N) (show 0<(3:Nat) by omega)) ?_;simp only [ST.frz,A0.frz,AV.frz,C.frz,gBu,gBj,gBi,go_sem,Bz,hPn,htkN])
     refine As (CI 0 rfl) ?_
     simp only [Vp,gAV,gAX,go_sem]
     (refine ai ?_;(repeat clear hK K);repeat refine kq fun K hK=>?_)
     refine Yr 7 [(0,0),(1,0),(2,0),(3,0),(4,1),(5,0),(6,0),(7,2)] ?_
     (refine VR ?_;repeat clear hK K)
     (refine ai ?_;(repeat clear hK K);repeat refine kq fun K hK=>?_)
     refine W6 [] Tryz.results37 ?_
     exact .inl ⟨hm,hv,(T,N),hpe,rfl⟩
    have hst:=hP.step hlt
    have hg:=gE1 hlt
    have hps:=C0 hg
    have hcl:=hP.st.cl _ (gE6 hlt)
    have hPst:=hP.st
    have hPn:=hP.n
    have hbst:=TK R m B (B8 R m k).1 (B8 R m k).1[k] hv hn hr hB hPst hcl sn rd hsn hsb hs0 (by omega)
    have har:=Ho hPst (fun r hr a ha=>by have:=(gE4 hlo).2.2.2 r hr a ha;omega) m hcl
    generalize Xn R m (B8 R m k).1[k] (B8 R m k).1=z at *
    obtain ⟨⟨A,Y,dv⟩,S2⟩:=z
    have gS:(Az (Xu (B8 R m k).1))[k]?=some (.l 1 (Ac ((B8 R m k).1[k].map Int.ofNat))):=AR (by unfold Xu;rw [gAC,hg];rfl)
    generalize (B8 R m k).1[k]=X at *
    obtain ⟨M1,hM1⟩:=C1 (B8 R m k).1 0
    obtain ⟨M2,hM2⟩:=C1 S2 0
    simp only [hM1,hM2] at hbst ⊢
    have d1:decide ((k:Int)<((B8 R m k).1.length:Int))=true:=by simpa using hlt
    simp only at hps har
    obtain ⟨T,hT⟩:∃ T,T=(B8 R m k).1:=⟨_,rfl⟩
    obtain ⟨N,hN⟩:∃ N,N=(B8 R m k).2:=⟨_,rfl⟩
    rw [<- hT] at hbst gS d1 hT7 hlt ⊢
    rw [<- hN] at hPn hps ⊢
    simp only [Wy,Xx]
    (refine aj (an @Ae (an @CQ @d1)) ?_;(repeat clear hK K);repeat refine kq fun K hK=>?_)
    refine W2 ?_
    refine As (PE 0 5 T.length rfl rfl (by rw [Ae,CQ,gBB]) (show 0<1 by omega)) ?_
    simp only [go_sem,Fv]
    have gC:(Au (Xu T))[k]?=some (.t 1 (Ac (X.map Int.ofNat))):=by rw [<- Fv,gAC,gS];rfl
    have hcT:(Au (Xu T)).length=T.length:=by rw [<- Fv,gAN,Ae,CQ]
    (refine aj (an @gC @hcT) ?_;(repeat clear hK K);repeat refine kq fun K hK=>?_)
    refine Bw (AQ (r:=⟨37,1,true,Au (Xu T)⟩) (ri:=⟨100,6,false,[.t 1 (AK R),.v (.int .i64 m),.p 1 0,.t 1 (Ws B),.m 3,.s 5 T.length]⟩) (ts:=Az (Xu T)) 0 5 5 T.length (by decide) rfl rfl rfl rfl (show 0<1 by omega) (by rw [hcT];exact gBB _) (D0 _)) ?_
    simp only [go_sem]
    (refine ai ?_;(repeat clear hK K);repeat refine kq fun K hK=>?_)
    (refine Aj rfl ?_;intro K1 hK1;refine Ax (ids:=[]) [0,1,2,3] (hbst) rfl rfl (by simp only [go_sem]) (by first | assumption | kernel_rfl) rfl rfl (by (simp only [gAT,gAk,go_sem]) <;> rfl) (by (simp only [Vk,Wy,Xx,A5,gAW,gAb,go_sem]) <;> rfl) ?_ ?_)
    ·rintro _ _ ⟨_,_,_,_,_,_,rfl,rfl⟩;rfl
    rintro _ _ ⟨sn2,rd2,hse2,hsb2,hs02,hsr2,rfl,rfl⟩
    (simp only [Ap,AC,Wy,Xx,XC,Xp,AL,gAW,gAb,Ys,go_sem];refine hK1 _ ?_;clear hK1 K1)
    have d7:((0:Int) != 0)=false:=by decide
    have d8:decide (lf - (A.length:Int)<0)=false:=gBK (by omega)
    have htkN:(cN N).take (k*3)++[.t 2 (Aw A),.t 1 (Az Y),.v (.bool dv)]=cN (N++[(A,Y,dv)]):=by
     rw [<- hPn,gE7 (by rw [Im];exact gBu _)]
     exact Jh N (A,Y,dv)
    have hk8:k<=128:=by omega
    (refine aj @d7 ?_;(repeat clear hK K);repeat refine kq fun K hK=>?_)
    refine W3 ?_
    (refine aj (an @A3 (an @Aq @d8)) ?_;(repeat clear hK K);repeat refine kq fun K hK=>?_)
    refine W3 ?_
    (refine aj (an @Im (an @Cw @hPn)) ?_;(repeat clear hK K);repeat refine kq fun K hK=>?_)
    refine W4 ?_
    refine hK _ (k+1,sn2,rd2,lf - A.length) ⟨?_,hse2,hsb2,hs02,by simp only;omega,by simp only;omega,by simp only;omega⟩ (by simp only;omega) ?_
    ·simp only
     rw [hps] at hst ⊢
     exact hst
    simp only [hps,hM2,Wy,Xx,htkN]
    refine Le.trans (A8 [0,1,2,3,9] rfl rfl) ?_
    simp only [go_sem,A5,G5,gAW,gAb]
    exact W5
   clear hK
   have hK:=hfin
   clear hfin
   refine YH [0] (.m 0 1 8 (.m 1 0 0 (.m 2 1 3 (.m 4 1 5 (.f 3 (.f 5 (.a 6 (.m 7 0 0 (.a 8 (.m 9 0 0 .e)))) 6 (.a 5 (.m 7 0 0 (.a 8 (.m 9 0 0 .e))))) 6 (.a 3 (.a 5 (.m 7 0 0 (.a 8 (.m 9 0 0 .e)))))))))) ?_
   (refine VX ?_;repeat clear hK K)
   refine VN ?_ ?_
   rotate_left
   ·(refine VL rfl rfl ?_;intro K1 hK1;refine Bl rfl ?_;simp only [go_sem];(first | refine hK1 _ ?_ | refine AE (hK1 _ ?_));clear hK1 K1)
    (refine VX ?_;repeat clear hK K)
    (refine E3 rfl rfl rfl ?_;intro K1 hK1;refine Ch (ids:=[]) [] (N2 R (by omega)) rfl rfl rfl rfl rfl (by simp only [go_sem]) (by first | assumption | kernel_rfl) rfl rfl (by (simp only [gAT,gAk,go_sem]) <;> rfl) (by (simp only [Vk,Ba,Wy,A5,go_sem]) <;> rfl) ?_ ?_)
    ·rintro _ _ ⟨rfl,rfl⟩;rfl
    rintro _ _ ⟨rfl,rfl⟩
    (simp only [Ap,AC,Ba,Wy,AL,Ys,go_sem];refine hK1 _ ?_;clear hK1 K1)
    (refine VX ?_;repeat clear hK K)
    (refine E3 rfl rfl rfl ?_;intro K1 hK1;refine Ch (ids:=[]) [] (J7 R hv (by omega) hr6) rfl rfl rfl rfl rfl (by simp only [go_sem]) (by first | assumption | kernel_rfl) rfl rfl (by (simp only [gAT,gAk,go_sem]) <;> rfl) (by (simp only [Vk,Ba,go_sem]) <;> rfl) ?_ ?_)
    ·rintro _ _ ⟨_,_,rfl,rfl⟩;rfl
    rintro _ _ ⟨B',hB',rfl,rfl⟩
    (simp only [Ap,AC,Ba,Ys,go_sem];refine hK1 _ ?_;clear hK1 K1)
    have hBB:=hB'.uniq hB
    subst hBB
    (refine VX ?_;repeat clear hK K)
    (refine VL rfl rfl ?_;intro K1 hK1;refine Bl rfl ?_;simp only [go_sem];(first | refine hK1 _ ?_ | refine AE (hK1 _ ?_));clear hK1 K1)
    (repeat (first | ((first | refine VJ rfl rfl rfl ?_ | refine VK rfl rfl rfl rfl rfl rfl rfl ?_ | refine OO rfl rfl rfl ?_);intro K1 hK1;simp only [go_sem,Wb];(first | refine hK1 _ ?_ | refine AE (hK1 _ ?_));clear hK1 K1) | (refine DY ⟨by simp,by simp,?_⟩;refine hK _ ?_;clear hK K)))
    refine Le.trans (A8 [4,2,3,1] rfl rfl) ?_
    simp only [go_sem,A5,Wy]
    exact W5
   (refine E3 rfl rfl rfl ?_;intro K1 hK1;refine Ch (ids:=[]) [] (N2 R (by omega)) rfl rfl rfl rfl rfl (by simp only [go_sem]) (by first | assumption | kernel_rfl) rfl rfl (by (simp only [gAT,gAk,go_sem]) <;> rfl) (by (simp only [Vk,Ba,Wy,A5,go_sem]) <;> rfl) ?_ ?_)
   ·rintro _ _ ⟨rfl,rfl⟩;rfl
   rintro _ _ ⟨rfl,rfl⟩
   (simp only [Ap,AC,Ba,Wy,AL,Ys,go_sem];refine hK1 _ ?_;clear hK1 K1)
   (refine VX ?_;repeat clear hK K)
   refine VN ?_ ?_
   ·(refine E3 rfl rfl rfl ?_;intro K1 hK1;refine Ch (ids:=[]) [] (J7 R hv (by omega) hr6) rfl rfl rfl rfl rfl (by simp only [go_sem]) (by first | assumption | kernel_rfl) rfl rfl (by (simp only [gAT,gAk,go_sem]) <;> rfl) (by (simp only [Vk,Ba,go_sem]) <;> rfl) ?_ ?_)
    ·rintro _ _ ⟨_,_,rfl,rfl⟩;rfl
    rintro _ _ ⟨B',hB',rfl,rfl⟩
    (simp only [Ap,AC,Ba,Ys,go_sem];refine hK1 _ ?_;clear hK1 K1)
    have hBB:=hB'.uniq hB
    subst hBB
    (refine VX ?_;repeat clear hK K)
    (refine VL rfl rfl ?_;intro K1 hK1;refine Bl rfl ?_;simp only [go_sem];(first | refine hK1 _ ?_ | refine AE (hK1 _ ?_));clear hK1 K1)
    (refine VX ?_;repeat clear hK K)
    (refine VL rfl rfl ?_;intro K1 hK1;refine Bl rfl ?_;simp only [go_sem];(first | refine hK1 _ ?_ | refine AE (hK1 _ ?_));clear hK1 K1)
    (repeat (first | ((first | refine VJ rfl rfl rfl ?_ | refine VK rfl rfl rfl rfl rfl rfl rfl ?_ | refine OO rfl rfl rfl ?_);intro K1 hK1;simp only [go_sem,Wb];(first | refine hK1 _ ?_ | refine AE (hK1 _ ?_));clear hK1 K1) | (refine DY ⟨by simp,by simp,?_⟩;refine hK _ ?_;clear hK K)))
    refine Le.trans (A8 [4,1,2,3] rfl rfl) ?_
    simp only [go_sem,A5,Wy]
    exact W5
   (refine VL rfl rfl ?_;intro K1 hK1;refine Bl rfl ?_;simp only [go_sem];(first | refine hK1 _ ?_ | refine AE (hK1 _ ?_));clear hK1 K1)
   (refine VX ?_;repeat clear hK K)
   (refine E3 rfl rfl rfl ?_;intro K1 hK1;refine Ch (ids:=[]) [] (J7 R hv (by omega) hr6) rfl rfl rfl rfl rfl (by simp only [go_sem]) (by first | assumption | kernel_rfl) rfl rfl (by (simp only [gAT,gAk,go_sem]) <;> rfl) (by (simp only [Vk,Ba,go_sem]) <;> rfl) ?_ ?_)
   ·rintro _ _ ⟨_,_,rfl,rfl⟩;rfl
   rintro _ _ ⟨B',hB',rfl,rfl⟩
   (simp only [Ap,AC,Ba,Ys,go_sem];refine hK1 _ ?_;clear hK1 K1)
   have hBB:=hB'.uniq hB
   subst hBB
   (refine VX ?_;repeat clear hK K)
   (refine VL rfl rfl ?_;intro K1 hK1;refine Bl rfl ?_;simp only [go_sem];(first | refine hK1 _ ?_ | refine AE (hK1 _ ?_));clear hK1 K1)
   (repeat (first | ((first | refine VJ rfl rfl rfl ?_ | refine VK rfl rfl rfl rfl rfl rfl rfl ?_ | refine OO rfl rfl rfl ?_);intro K1 hK1;simp only [go_sem,Wb];(first | refine hK1 _ ?_ | refine AE (hK1 _ ?_));clear hK1 K1) | (refine DY ⟨by simp,by simp,?_⟩;refine hK _ ?_;clear hK K)))
   refine Le.trans (A8 [4,1,2,3] rfl rfl) ?_
   simp only [go_sem,A5,Wy]
   exact W5
end Go.Proofs.YtbnabodoabimnaaGreat
namespace Go.Proofs.YtbnabodoabimnaaGreat
set_option linter.unusedVariables false
set_option linter.unusedSimpArgs false
open Go.RowKit
set_option maxRecDepth 100000
theorem TL (xs:List Int) (x:Int) (hn:xs.length<=140737488355328):FC Tryz.prog 74 [Ap xs,.i x] [] (fun r o=>o=[]/\r=.b (decide (x∈xs))):=by
 refine A7 Tryz.func74 rfl (by rw [Tryz.ntmps74];simp) ?_
 rw [Tryz.ntmps74]
 simp only [B4,Ap]
 (refine VV ?_;(repeat clear hK K);unhygienic intros)
 refine Ab (fun k:Nat=>{ tm:=[(0,.a (.c (.t 1 (Ac xs)))),(1,.i x),(5,.i k)],hp:=[],n:=18,pin:=0 }) (fun k=>k<=xs.length/\∀ i,i<k->xs[i]? ≠ some x) (fun k=>xs.length - k) 0 ?_ ?_ ?_
 ·exact ⟨by omega,by intro i hi;omega⟩
 ·exact W5
 rintro k ⟨hk,hno⟩ K hK
 (refine VW @A2 ?_;(repeat clear hK K);unhygienic intros)
 (refine Ah ?_;intro X Y hX hY;simp only [go_sem])
 refine ⟨fun h=>hX ?_,fun h=>hY ?_⟩
 rotate_left
 ·have hge:k=xs.length:=by simp at h;omega
  clear hX hY X Y
  (refine VZ ?_;repeat clear hK K)
  (refine VV ?_;(repeat clear hK K);unhygienic intros)
  refine W8 Tryz.results74 ?_
  have:x ∉ xs:=by
   intro hm
   obtain ⟨i,hi⟩:=gB6.1 hm
   exact hno i (by rw [hge];exact (List.getElem?_eq_some_iff.1 hi).1) hi
  simp [this]
 have hlt:k<xs.length:=by simpa using h
 clear hX hY X Y h
 (refine VW (an @A2 (Al (gE1 hlt))) ?_;(repeat clear hK K);unhygienic intros)
 (refine Ah ?_;intro X Y hX hY;simp only [go_sem])
 refine ⟨fun h=>hX ?_,fun h=>hY ?_⟩
 ·clear hX hY X Y
  (refine VV ?_;(repeat clear hK K);unhygienic intros)
  refine W8 Tryz.results74 ?_
  have:x∈xs:=by rw [<- beq_iff_eq.1 h];exact gE6 hlt
  simp [this]
 clear hX hY X Y
 (refine VV ?_;(repeat clear hK K);unhygienic intros)
 refine W4 ?_
 refine hK _ (k+1) ⟨by omega,fun i hi=>?_⟩ (by omega) ?_
 rotate_left
 ·exact W5
 by_cases e:i=k
 ·subst e;rw [gE1 hlt];simpa using h
 exact hno i (by omega)


theorem Qq (x:Int) (a b:List Int):Dp (x :: a) b=(decide (x∈b) && Dp a b):=rfl
theorem S8 (xs ys:List Int) (hn:xs.length<=140737488355328) (hm:ys.length<=140737488355328):FC Tryz.prog 89 [Ap xs,Ap ys] [] (fun r o=>o=[]/\r=.b (Dp xs ys)):=by
 refine A7 Tryz.func89 rfl (by rw [Tryz.ntmps89];simp) ?_
 rw [Tryz.ntmps89]
 simp only [B4,Ap]
 (refine VV ?_;(repeat clear hK K);unhygienic intros)
 refine Ab (fun k:Nat=>{ tm:=[(0,.a (.c (.t 1 (Ac xs)))),(1,.a (.c (.t 1 (Ac ys)))),(5,.i k)],hp:=[],n:=19,pin:=0 }) (fun k=>k<=xs.length/\Dp xs ys=Dp (xs.drop k) ys) (fun k=>xs.length - k) 0 ?_ ?_ ?_
 ·exact ⟨by omega,rfl⟩
 ·exact W5
 rintro k ⟨hk,he⟩ K hK
 (refine VW @A2 ?_;(repeat clear hK K);unhygienic intros)
 (refine Ah ?_;intro X Y hX hY;simp only [go_sem])
 refine ⟨fun h=>hX ?_,fun h=>hY ?_⟩
 rotate_left
 ·have hge:xs.length<=k:=by simp at h;omega
  clear hX hY X Y
  (refine VZ ?_;repeat clear hK K)
  (refine VV ?_;(repeat clear hK K);unhygienic intros)
  refine W8 Tryz.results89 ?_
  rw [he,gAq hge]
  simp [Dp]
 have hlt:k<xs.length:=by simpa using h
 clear hX hY X Y h
 rw [Bm hlt] at he
 (refine VW (an @A2 (Al (gE1 hlt))) ?_;unhygienic intros)
 refine Yt (TL ys xs[k] hm) ?_
 (refine VV ?_;(repeat clear hK K);unhygienic intros)
 (refine Ah ?_;intro X Y hX hY;simp only [go_sem])
 refine ⟨fun h=>hX ?_,fun h=>hY ?_⟩
 ·clear hX hY X Y
  (refine VV ?_;(repeat clear hK K);unhygienic intros)
  refine W8 Tryz.results89 ?_
  rw [he,Qq]
  simp at h
  simp [h]
 clear hX hY X Y
 (refine VV ?_;(repeat clear hK K);unhygienic intros)
 refine W4 ?_
 refine hK _ (k+1) ⟨by omega,?_⟩ (by omega) ?_
 rotate_left
 ·exact W5
 rw [he,Qq]
 simp at h
 simp [h]

theorem Hp (xs ys:List Int) (hn:xs.length<=140737488355328) (hm:ys.length<=140737488355328):FC Tryz.prog 39 [Ap xs,Ap ys] [] (fun r o=>o=[]/\r=.b (decide (xs=ys))):=by
 refine A7 Tryz.func39 rfl (by rw [Tryz.ntmps39];simp) ?_
 rw [Tryz.ntmps39]
 simp only [B4,Ap]
 (refine VW @A2 ?_;(repeat clear hK K);unhygienic intros)
 (refine Ah ?_;intro X Y hX hY;simp only [go_sem])
 refine ⟨fun h=>hX ?_,fun h=>hY ?_⟩
 ·clear hX hY X Y
  (refine VV ?_;(repeat clear hK K);unhygienic intros)
  refine W8 Tryz.results39 ?_
  have:xs ≠ ys:=by rintro rfl;simp at h
  simp [this]
 clear hX hY X Y
 have hlen:xs.length=ys.length:=by simp at h;omega
 clear h
 (refine VV ?_;(repeat clear hK K);unhygienic intros)
 refine Ab (fun k:Nat=>{ tm:=[(0,.a (.c (.t 1 (Ac xs)))),(1,.a (.c (.t 1 (Ac ys)))),(5,.i k)],hp:=[],n:=26,pin:=0 }) (fun k=>k<=xs.length/\xs.take k=ys.take k) (fun k=>xs.length - k) 0 ?_ ?_ ?_
 ·exact ⟨by omega,rfl⟩
 ·exact W5
 rintro k ⟨hk,he⟩ K hK
 (refine VW @A2 ?_;(repeat clear hK K);unhygienic intros)
 (refine Ah ?_;intro X Y hX hY;simp only [go_sem])
 refine ⟨fun h=>hX ?_,fun h=>hY ?_⟩
 rotate_left
 ·have hge:k=xs.length:=by simp at h;omega
  clear hX hY X Y
  (refine VZ ?_;repeat clear hK K)
  (refine VV ?_;(repeat clear hK K);unhygienic intros)
  refine W8 Tryz.results39 ?_
  have:xs=ys:=by
   rw [hge,gBn,hlen,gBn] at he
   exact he
  simp [this]
 have hlt:k<xs.length:=by simpa using h
 have hlt2:k<ys.length:=by omega
 clear hX hY X Y h
 (refine VV ?_;unhygienic intros)
 refine Yr 8 [(0,0),(1,0),(2,0),(3,1),(4,0),(5,0),(6,0),(7,1),(8,2)] ?_
 (refine VS (an @A2 (an (Al (gE1 hlt)) (Al (gE1 hlt2)))) ?_;repeat clear hK K)
 (refine Ah ?_;intro X Y hX hY;simp only [go_sem])
 refine ⟨fun h=>hX ?_,fun h=>hY ?_⟩
 ·clear hX hY X Y
  (refine VV ?_;(repeat clear hK K);unhygienic intros)
  refine W8 Tryz.results39 ?_
  have:xs ≠ ys:=by rintro rfl;simp at h
  simp [this]
 clear hX hY X Y
 (refine VV ?_;(repeat clear hK K);unhygienic intros)
 refine W4 ?_
 refine hK _ (k+1) ⟨by omega,?_⟩ (by omega) ?_
 rotate_left
 ·exact W5
 have h1:xs[k]=ys[k]:=by simpa using h
 rw [gE8 hlt,gE8 hlt2,he,h1]
theorem KQ (xs ys:List (List Int)) (hn:xs.length<=140737488355328) (hm:ys.length<=140737488355328) (hb:∀ x∈xs,x.length<=140737488355328) (hc:∀ x∈ys,x.length<=140737488355328):FC Tryz.prog 12 [AC xs,AC ys] [] (fun r o=>o=[]/\r=.b (decide (xs=ys))):=by
 refine A7 Tryz.func12 rfl (by rw [Tryz.ntmps12];simp) ?_
 rw [Tryz.ntmps12]
 simp only [B4,AC]
 (refine VW @Ae ?_;(repeat clear hK K);unhygienic intros)
 (refine Ah ?_;intro X Y hX hY;simp only [go_sem])
 refine ⟨fun h=>hX ?_,fun h=>hY ?_⟩
 ·clear hX hY X Y
  (refine VV ?_;(repeat clear hK K);unhygienic intros)
  refine W8 Tryz.results12 ?_
  have:xs ≠ ys:=by rintro rfl;simp at h
  simp [this]
 clear hX hY X Y
 have hlen:xs.length=ys.length:=by simp at h;omega
 clear h
 (refine VV ?_;(repeat clear hK K);unhygienic intros)
 refine Ab (fun k:Nat=>{ tm:=[(0,.a (.c (.t 1 (Az xs)))),(1,.a (.c (.t 1 (Az ys)))),(5,.i k)],hp:=[],n:=27,pin:=0 }) (fun k=>k<=xs.length/\xs.take k=ys.take k) (fun k=>xs.length - k) 0 ?_ ?_ ?_
 ·exact ⟨by omega,rfl⟩
 ·exact W5
 rintro k ⟨hk,he⟩ K hK
 (refine VW @Ae ?_;(repeat clear hK K);unhygienic intros)
 (refine Ah ?_;intro X Y hX hY;simp only [go_sem])
 refine ⟨fun h=>hX ?_,fun h=>hY ?_⟩
 rotate_left
 ·have hge:k=xs.length:=by simp at h;omega
  clear hX hY X Y
  (refine VZ ?_;repeat clear hK K)
  (refine VV ?_;(repeat clear hK K);unhygienic intros)
  refine W8 Tryz.results12 ?_
  have:xs=ys:=by
   rw [hge,gBn,hlen,gBn] at he
   exact he
  simp [this]
 have hlt:k<xs.length:=by simpa using h
 have hlt2:k<ys.length:=by omega
 clear hX hY X Y h
 (refine VV ?_;unhygienic intros)
 refine Yr 8 [(0,0),(1,0),(2,0),(3,1),(4,0),(5,0),(6,0),(7,1),(8,2),(9,0)] ?_
 (refine VS (an @Ae (an (AR (gE1 hlt)) (AR (gE1 hlt2)))) ?_;repeat clear hK K)
 refine Vt rfl rfl rfl ?_;intro K1 hK1
 refine (Av (ids:=[]) (Hp xs[k] ys[k] (hb _ (gE6 hlt)) (hc _ (gE6 hlt2))) rfl rfl (by simp only [go_sem]) (by kernel_rfl) (by (simp only [List.getElem_toArray,List.getElem_cons_zero,List.getElem_cons_succ,F9,gAk,AV.ren,A0.ren,C.ren,go_sem]) <;> rfl) ?_).stp
 rintro _ _ ⟨rfl,rfl⟩
 (refine W1 ?_;clear hK1 K1)
 (refine VR ?_;repeat clear hK K)
 (refine Ah ?_;intro X Y hX hY;simp only [go_sem])
 refine ⟨fun h=>hX ?_,fun h=>hY ?_⟩
 ·clear hX hY X Y
  (refine VV ?_;(repeat clear hK K);unhygienic intros)
  refine W8 Tryz.results12 ?_
  have:xs ≠ ys:=by rintro rfl;simp at h
  simp [this]
 clear hX hY X Y
 (refine VV ?_;(repeat clear hK K);unhygienic intros)
 refine W4 ?_
 refine hK _ (k+1) ⟨by omega,?_⟩ (by omega) ?_
 rotate_left
 ·exact W5
 have h1:xs[k]=ys[k]:=by simpa using h
 rw [gE8 hlt,gE8 hlt2,he,h1]
theorem S9 (xs ys:List Int) (hn:xs.length<=140737488355328) (hm:ys.length<=140737488355328):FC Tryz.prog 124 [Ap xs,Ap ys] [] (fun r o=>o=[]/\r=.b (Bi xs ys)):=by
 refine A7 Tryz.func124 rfl (by rw [Tryz.ntmps124];simp) ?_
 rw [Tryz.ntmps124]
 simp only [B4,Ap]
 (refine VV ?_;(repeat clear hK K);unhygienic intros)
 refine Ab (fun k:Nat=>{ tm:=[(0,.a (.c (.t 1 (Ac xs)))),(1,.a (.c (.t 1 (Ac ys)))),(5,.i k)],hp:=[],n:=41,pin:=0 }) (fun k=>k<=xs.length/\k<=ys.length/\Bi xs ys=Bi (xs.drop k) (ys.drop k)) (fun k=>xs.length - k) 0 ?_ ?_ ?_
 ·exact ⟨by omega,by omega,rfl⟩
 ·exact W5
 rintro k ⟨hk,hk2,he⟩ K hK
 have fin:∀ b:Bool,b=decide ((xs.length:Int)<(ys.length:Int))->(xs.length<=k\/ys.length<=k)->b=Bi xs ys:=by
  intro b hb hor
  rw [he,hb]
  rcases hor with h | h
  ·rw [gAq h]
   by_cases e:k<ys.length
   ·rw [Bm e];simp [Bi];omega
   rw [gAq (by omega)];simp [Bi];omega
  rw [gAq h]
  by_cases e:k<xs.length
  ·rw [Bm e];simp [Bi];omega
  rw [gAq (by omega)];simp [Bi];omega
 by_cases hlt:k<xs.length
 rotate_left
 ·have hl1:=Yq hlt
  (refine VW (an @A2 @hl1) ?_;unhygienic intros)
  (refine Ah ?_;intro X Y hX hY;simp only [go_sem])
  refine hY ?_;clear hX hY X Y
  (refine VZ ?_;repeat clear hK K)
  (refine VW @A2 ?_;(repeat clear hK K);unhygienic intros)
  refine W8 Tryz.results124 ?_
  rw [fin _ rfl (.inl (by omega))]
 have hl1:=Yp hlt
 (refine VW (an @A2 @hl1) ?_;(repeat clear hK K);unhygienic intros)
 (refine Ah ?_;intro X Y hX hY;simp only [go_sem])
 refine ⟨fun h=>hX ?_,fun h=>hY ?_⟩
 rotate_left
 ·have hge:ys.length<=k:=by simpa using h
  clear hX hY X Y
  (refine VZ ?_;repeat clear hK K)
  (refine VW @A2 ?_;(repeat clear hK K);unhygienic intros)
  refine W8 Tryz.results124 ?_
  rw [fin _ rfl (.inr hge)]
 have hlt2:k<ys.length:=by simpa using h
 clear hX hY X Y h
 rw [Bm hlt,Bm hlt2] at he
 (refine VV ?_;unhygienic intros)
 refine Yr 8 [(0,0),(1,0),(2,0),(3,1),(4,0),(5,0),(6,0),(7,1),(8,2)] ?_
 (refine VS (an @A2 (an (Al (gE1 hlt)) (Al (gE1 hlt2)))) ?_;repeat clear hK K)
 (refine Ah ?_;intro X Y hX hY;simp only [go_sem])
 refine ⟨fun h=>hX ?_,fun h=>hY ?_⟩
 rotate_left
 ·clear hX hY X Y
  (refine VV ?_;(repeat clear hK K);unhygienic intros)
  refine W4 ?_
  refine hK _ (k+1) ⟨by omega,by omega,?_⟩ (by omega) ?_
  rotate_left
  ·exact W5
  have h1:xs[k]=ys[k]:=by simpa using h
  rw [he]
  simp [Bi,h1]
 clear hX hY X Y
 (refine VV ?_;unhygienic intros)
 refine Yr 9 [(0,0),(1,0),(2,0),(3,1),(4,0),(5,0),(6,0),(7,1),(8,0),(9,2)] ?_
 (refine VS (an @A2 (an (Al (gE1 hlt)) (Al (gE1 hlt2)))) ?_;repeat clear hK K)
 refine W8 Tryz.results124 ?_
 have h1:xs[k] ≠ ys[k]:=by simpa using h
 rw [he]
 simp [Bi,h1]
end Go.Proofs.YtbnabodoabimnaaGreat
namespace Go.Proofs.YtbnabodoabimnaaGreat
set_option linter.unusedVariables false
set_option linter.unusedSimpArgs false
open Go.RowKit
set_option maxRecDepth 100000
attribute [local go_sem] lga C.pl C.one
set_option maxHeartbeats 4000000 in
theorem Sa (R:List (List Ar)) (X:List Nat) (e:Int) (hv:C7 R=true) (hX:ClS R X) (h3:0<e) (h4:e<=1025) (hn:R.length<=1000000) (hr:∀ r∈R,r.length<=1000000):FC Tryz.prog 58 [Ba R,.a (.c (.t 1 (Ac (X.map Int.ofNat)))),.i e] [] (fun r o=>o=[]/\r=Ap ((EP R X e).map Int.ofNat)):=by
 refine A7 Tryz.func58 rfl (by rw [Tryz.ntmps58];simp) ?_
 rw [Tryz.ntmps58]
 simp only [B4,Ba]
 have hlo:BZ R=true:=gEg (gE4 hv).1
 have hbd:=(gE4 hlo).2.2.2
 have he:e ≠ 0:=by omega
 have hXn:=hX.len
 have hXi:∀ x∈X.map Int.ofNat,0<=x/\x<(R.length:Int):=fun x hx=>by
  obtain ⟨u,hu,rfl⟩:=gB7.1 hx
  have:=hX.lt u hu
  exact ⟨Int.natCast_nonneg u,by show (u:Int) < _;omega⟩
 have c3:decide (e<0)=false:=gBK (by omega)
 have c4:decide (e > 1025)=false:=gBK (by omega)
 (refine VV ?_;unhygienic intros)
 refine Yt (Db R (by omega) (fun r h=>by have:=hr r h;omega)) ?_
 (refine VW (an @hv @gA9) ?_;unhygienic intros)
 (refine AY rfl rfl (by simp only [go_sem] <;> rfl) ?_;intro K1 hK1;refine (Av (ids:=[]) (MO R (X.map Int.ofNat) hXi hn (by rw [gAN];omega)) rfl rfl (by simp only [go_sem]) (by kernel_rfl) (by (simp only [gAk,go_sem]) <;> rfl) ?_).stp)
 rintro _ _ ⟨rfl,rfl⟩
 (refine W1 ?_;clear hK1 K1)
 (refine VW (an @gA9 (an @c3 @c4)) ?_;unhygienic intros)
 refine W3 ?_
 (refine VV ?_;(repeat clear hK K);unhygienic intros)
 (refine W0 (Id R X hv hX.lt (by omega) hn hr) ?_;intro K1 hK1)
 rintro _ _ ⟨B,hB,rfl,rfl⟩
 (refine W1 ?_;clear hK1 K1)
 have hLM:rL R.length B=X.map Int.ofNat:=by
  have:DV R.length (Bx B)=X:=by
   obtain ⟨p,hp⟩:=hX.1
   refine G0 (Bu _ _) (by rw [hp];exact Bu _ _) fun u=>?_
   rw [BI,hB.2]
   constructor
   ·rintro ⟨h5,v,h6,h7⟩;exact hX.2 v h6 u h5 h7
   intro h5;exact ⟨hX.lt u h5,u,h5,.refl u⟩
  show (DV R.length (Bx B)).map Int.ofNat=_
  rw [this]
 obtain ⟨M,hM⟩:∃ M,M=X:=⟨_,rfl⟩
 have hMm:∀ v,v∈M->v<R.length:=fun v h=>hX.lt v (hM ▸ h)
 have hMl:M.length<=R.length:=by rw [hM];exact hX.len
 have d0:(e == 0)=false:=by simpa using he
 rw [<- hM] at hLM
 rw [hLM]
 clear hLM
 (refine VW @d0 ?_;unhygienic intros)
 refine W3 ?_
 (refine VV ?_;(repeat clear hK K);unhygienic intros)
 refine As (Dj 8 1 ?_) ?_
 ·simp only [go_sem]
 have htn:Ac ([]:List Int)=[]:=rfl
 refine Ab (fun i:Nat=>{ tm:=[(2,.i e),(3,.a (.c (.p 0 0))),(7,.a (.c (.t 1 (Ac (M.map Int.ofNat))))),(8,.a (.c (.t 1 (Ac (WC R (M.take i) e []))))),(9,.i i)],hp:=[.r ⟨27,1,false,[.t 1 (AK R)]⟩],n:=84,pin:=0 }) (fun i=>i<=M.length) (fun i=>M.length - i) 0 ?_ ?_ ?_
 ·omega
 ·simp only [gBq,WC,gAx,htn]
  exact W5
 rintro i hi K hK
 by_cases hlt:i<M.length
 rotate_left
 ·have d1:=Yq hlt
  have htM:M.take i=M:=gE7 (by omega)
  rw [htM]
  have htm:∀ x,x∈WC R M e []↔∃ s∈M,∃ a∈R.getD s [],a.1=e/\a.2=x:=fun x=>by rw [N6];simp
  have htb:∀ x∈WC R M e [],0<=x/\x<(R.length:Int):=fun x hx=>by
   obtain ⟨s,hs,a,ha,_,rfl⟩:=(htm x).1 hx
   have hsl2:=hMm s hs
   rw [gE2,gE1 hsl2,gBF] at ha
   have:=hbd _ (gE6 hsl2) a ha
   exact ⟨this.2.2.1,this.2.2.2⟩
  have htl:=E7 (N7 (R:=R) (e:=e) M [] List.Pairwise.nil) htb
  generalize WC R M e []=T at *
  obtain ⟨F,hF⟩:∃ F:List Nat,F=T.map Int.toNat:=⟨_,rfl⟩
  have hFT:T=F.map Int.ofNat:=by rw [hF,Np fun x hx=>(htb x hx).1]
  have hFl:F.length<=R.length:=by rw [hF,gAN];exact htl
  have hFm:∀ v,v∈F↔(v:Int)∈T:=fun v=>by
   rw [hF,gB7]
   constructor
   rotate_left
   ·intro h;exact ⟨_,h,by simp⟩
   rintro ⟨x,hx,rfl⟩
   have:=htb x hx
   rw [show ((x.toNat:Nat):Int)=x by omega];exact hx
  rw [hFT]
  (refine VW (an @d1 (an @A2 @gAN.{0,0})) ?_;unhygienic intros)
  refine W3 ?_
  (refine VZ ?_;repeat clear hK K)
  (refine VV ?_;unhygienic intros)
  (refine W0 (Id R F hv (fun v hv=>by have:=htb _ ((hFm v).1 hv);omega) (by omega) hn hr) ?_;intro K1 hK1)
  rintro _ _ ⟨B2,hB2,rfl,rfl⟩
  (refine W1 ?_;clear hK1 K1)
  (refine VV ?_;(repeat clear hK K);unhygienic intros)
  refine W6 [] Tryz.results58 ?_
  have hA:DV R.length (Bx B2)=EP R X e:=Nl fun u hu=>by
   rw [hB2.2]
   constructor
   ·rintro ⟨v,h5,h6⟩
    obtain ⟨s,hs,a,ha,hae,hav⟩:=(htm _).1 ((hFm v).1 h5)
    refine ⟨v,Yx.2 ⟨s,hM ▸ hs,DF.2 ⟨a,ha,hae,?_⟩⟩,h6⟩
    rw [hav,gAd]
   rintro ⟨v,h5,h6⟩
   obtain ⟨s,hs,h7⟩:=Yx.1 h5
   obtain ⟨a,ha,hae,rfl⟩:=DF.1 h7
   refine ⟨a.2.toNat,(hFm _).2 ((htm _).2 ⟨s,hM ▸ hs,a,ha,hae,?_⟩),h6⟩
   have hsr:=hX.lt s hs
   rw [gE2,gE1 hsr,gBF] at ha
   have:=hbd _ (gE6 hsr) a ha
   omega
  show Ap ((DV R.length (Bx B2)).map Int.ofNat)=_
  rw [hA]
 have d1:=Yp hlt
 have gL:(Ac (M.map Int.ofNat))[i]?=some (.v (.int .i64 (M[i]:Int))):=Al (by rw [gAC,gE1 hlt];rfl)
 have hul:=hMm _ (gE6 hlt)
 have hTk:M.take (i+1)=M.take i++[M[i]]:=gE8 hlt
 have hsub:∀ v∈M.take i,v<R.length:=fun v hv=>hMm v (gB8 hv)
 generalize M[i]=u at *
 have hgR:=gE1 hul
 have hrl:=hr _ (gE6 hul)
 have hRu:R.getD u []=R[u]:=by rw [gE2,hgR];rfl
 have hbr:=hbd _ (gE6 hul)
 generalize hrr:R[u]=row at *
 have hacc:W9 (WC R (M.take i) e [])/\∀ x∈WC R (M.take i) e [],0<=x/\x<(R.length:Int):=by
  refine ⟨N7 _ _ List.Pairwise.nil,fun x hx=>?_⟩
  rw [N6] at hx
  rcases hx with h | ⟨s,hs,a,ha,_,rfl⟩
  ·simp at h
  have hsl2:=hsub s hs
  rw [gE2,gE1 hsl2,gBF] at ha
  have:=hbd _ (gE6 hsl2) a ha
  exact ⟨this.2.2.1,this.2.2.2⟩
 have hnx:WC R (M.take (i+1)) e []=IA row e (WC R (M.take i) e []):=by rw [hTk,Pg,hRu]
 generalize WC R (M.take i) e []=acc at *
 have hKo:=hK
 (refine VW (an @d1 (an @A2 @gAN.{0,0})) ?_;unhygienic intros)
 refine W2 ?_
 (refine VV ?_;(repeat clear hK K);unhygienic intros)
 refine Ab (fun k:Nat=>{ tm:=[(2,.i e),(3,.a (.c (.p 0 0))),(7,.a (.c (.t 1 (Ac (M.map Int.ofNat))))),(8,.a (.c (.t 1 (Ac (IA (row.take k) e acc))))),(9,.i i),(10,.i k)],hp:=[.r ⟨27,1,false,[.t 1 (AK R)]⟩],n:=84,pin:=0 }) (fun k=>k<=row.length) (fun k=>row.length - k) 0 ?_ ?_ ?_
 ·omega
 ·simp only [gBq,IA,gAx]
  exact W5
 rintro k hk K hK
 by_cases hlt2:k<row.length
 rotate_left
 ·have d2:=Yq hlt2
  have htr:row.take k=row:=gE7 (by omega)
  rw [htr,<- hnx]
  (refine VV ?_;unhygienic intros)
  refine Yr 10 [(0,0),(1,0),(2,1),(3,0),(4,0),(5,0),(6,1),(7,0),(8,1),(9,0),(10,2)] ?_
  (refine VS (an @A6 (an (Ao hgR) (an @A2 (an @gAN.{0,0} (an @gL (an @A3 (an @Aq @d2))))))) ?_;repeat clear hK K)
  refine W3 ?_
  (refine VZ ?_;repeat clear hK K)
  (refine VV ?_;(repeat clear hK K);unhygienic intros)
  refine W4 ?_
  refine hKo _ (i+1) (by omega) (by omega) ?_
  exact W5
 have d2:=Yp hlt2
 have ha0:=DQ hlt2
 have ha1:=Fq hlt2
 have hsn:=N5 (row.take k) e acc row[k]
 rw [<- gE8 hlt2] at hsn
 have hql:(IA (row.take k) e acc).length<=R.length:=E7 (Kw _ _ hacc.1) fun x hx=>by
  rw [Kv] at hx
  rcases hx with h | ⟨a,ha,_,rfl⟩
  ·exact hacc.2 x h
  have:=hbr a (gB8 ha)
  exact ⟨this.2.2.1,this.2.2.2⟩
 generalize IA (row.take k) e acc=q at *
 (refine VV ?_;unhygienic intros)
 refine Yr 10 [(0,0),(1,0),(2,1),(3,0),(4,0),(5,0),(6,1),(7,0),(8,1),(9,0),(10,2)] ?_
 (refine VS (an @A6 (an (Ao hgR) (an @A2 (an @gAN.{0,0} (an @gL (an @A3 (an @Aq @d2))))))) ?_;repeat clear hK K)
 refine W2 ?_
 (refine VV ?_;(repeat clear hK K);unhygienic intros)
 by_cases hae:row[k].1=e
 rotate_left
 ·have d3:(row[k].1 == e)=false:=by simpa using hae
  rw [if_neg hae] at hsn
  refine Yr 13 [(0,0),(1,1),(2,0),(3,0),(4,0),(5,1),(6,0),(7,1),(8,0),(9,0),(10,0),(11,1),(12,0),(13,2)] ?_
  (refine VS (an @A6 (an (Ao hgR) (an @A2 (an @gAN.{0,0} (an @gL (an @A3 (an @Aq (an @ha0 @d3)))))))) ?_;repeat clear hK K)
  refine W3 ?_
  (refine VV ?_;(repeat clear hK K);unhygienic intros)
  refine W4 ?_
  refine hK _ (k+1) (by omega) (by omega) ?_
  rw [hsn]
  exact W5
 have d3:(row[k].1 == e)=true:=by simpa using hae
 rw [if_pos hae] at hsn
 refine Yr 13 [(0,0),(1,1),(2,0),(3,0),(4,0),(5,1),(6,0),(7,1),(8,0),(9,0),(10,0),(11,1),(12,0),(13,2)] ?_
 (refine VS (an @A6 (an (Ao hgR) (an @A2 (an @gAN.{0,0} (an @gL (an @A3 (an @Aq (an @ha0 @d3)))))))) ?_;repeat clear hK K)
 refine W2 ?_
 (refine VV ?_;unhygienic intros)
 refine Yr 13 [(0,0),(1,0),(2,1),(3,0),(4,0),(5,0),(6,1),(7,0),(8,1),(9,0),(10,0),(11,0),(12,1),(13,2),(14,0)] ?_
 (refine VS (an @A6 (an (Ao hgR) (an @A2 (an @gAN.{0,0} (an @gL (an @A3 (an @Aq @ha1))))))) ?_;repeat clear hK K)
 (refine Qa (Ja q row[k].2 (by omega)) ?_;intro K1 hK1)
 rintro _ _ ⟨rfl,rfl⟩
 (refine W1 ?_;clear hK1 K1)
 (refine VR ?_;repeat clear hK K)
 (refine VV ?_;(repeat clear hK K);unhygienic intros)
 refine W4 ?_
 refine hK _ (k+1) (by omega) (by omega) ?_
 rw [hsn]
 exact W5
def XD (l:List Int) (acc:List Int):List Int:=l.foldl (fun acc e=>if e != 0 then Df e acc else acc) acc
def XE (R:List (List Ar)) (X:List Nat) (acc:List Int):List Int:=X.foldl (fun acc s=>XD (WD (R.getD s [])) acc) acc
theorem PF (l:List Int) (e:Int) (acc:List Int):XD (l++[e]) acc=if e != 0 then Df e (XD l acc) else XD l acc:=by unfold XD;rw [gAv];rfl
theorem PG (R:List (List Ar)) (X:List Nat) (s:Nat) (acc:List Int):XE R (X++[s]) acc=XD (WD (R.getD s [])) (XE R X acc):=by unfold XE;rw [gAv];rfl
theorem Jq {x:Int}:∀ (l acc:List Int),x∈XD l acc↔x∈acc\/(x∈l/\x ≠ 0)
 | [],acc=>by simp [XD]
 | e :: l,acc=>by
  have ih:=fun a=>Jq (x:=x) l a
  show x∈XD l (if e != 0 then Df e acc else acc)↔_
  rw [ih]
  by_cases h:e=0
  ·have d:(e != 0)=false:=by simp [h]
   rw [d,if_neg (by decide),gB2]
   constructor
   ·rintro (q | ⟨q,q2⟩)
    ·exact .inl q
    ·exact .inr ⟨.inr q,q2⟩
   ·rintro (q | ⟨rfl | q,q2⟩)
    ·exact .inl q
    ·exact absurd h q2
    ·exact .inr ⟨q,q2⟩
  ·have d:(e != 0)=true:=by simp [h]
   rw [d,if_pos rfl,Cv,gB2]
   constructor
   ·rintro ((rfl | q) | ⟨q,q2⟩)
    ·exact .inr ⟨.inl rfl,h⟩
    ·exact .inl q
    ·exact .inr ⟨.inr q,q2⟩
   ·rintro (q | ⟨rfl | q,q2⟩)
    ·exact .inl (.inr q)
    ·exact .inl (.inl rfl)
    ·exact .inr ⟨q,q2⟩
theorem Jr:∀ (l acc:List Int),W9 acc->W9 (XD l acc)
 | [],_,h=>h
 | e :: l,acc,h=>by
  show W9 (XD l (if e != 0 then Df e acc else acc))
  refine Jr l _ ?_
  split
  ·exact DN h
  ·exact h
theorem Js {R:List (List Ar)} {x:Int}:∀ (X:List Nat) (acc:List Int),x∈XE R X acc↔x∈acc\/∃ s∈X,x∈WD (R.getD s [])/\x ≠ 0
 | [],acc=>by simp [XE]
 | s :: X,acc=>by
  show x∈XE R X (XD (WD (R.getD s [])) acc)↔_
  rw [Js X,Jq]
  simp only [gB2,exists_eq_or_imp,or_assoc]
theorem Jt {R:List (List Ar)}:∀ (X:List Nat) (acc:List Int),W9 acc->W9 (XE R X acc)
 | [],_,h=>h
 | _ :: X,_,h=>Jt X _ (Jr _ _ h)
theorem Sb (R:List (List Ar)) (X:List Nat):XE R X []=Xf R X:=by
 refine GV (Jt X [] List.Pairwise.nil) (Hm R X) fun x=>?_
 rw [Js,Dm]
 constructor
 rotate_left
 ·rintro ⟨s,hs,a,ha,h0,rfl⟩
  exact .inr ⟨s,hs,C9.2 ⟨a,ha,rfl⟩,h0⟩
 rintro (h | ⟨s,hs,h,h0⟩)
 ·simp at h
 obtain ⟨a,ha,rfl⟩:=C9.1 h
 exact ⟨s,hs,a,ha,h0,rfl⟩
set_option maxHeartbeats 4000000 in
theorem Sc (R:List (List Ar)) (X:List Nat) (hv:C7 R=true) (hXs:∀ s∈X,s<R.length) (hXn:X.length<=1000000) (hn:R.length<=1000000) (hr:∀ r∈R,r.length<=1000000):FC Tryz.prog 57 [Ba R,.a (.c (.t 1 (Ac (X.map Int.ofNat))))] [] (fun r o=>o=[]/\r=Ap (Xf R X)):=by
 refine A7 Tryz.func57 rfl (by rw [Tryz.ntmps57];simp) ?_
 rw [Tryz.ntmps57]
 simp only [B4,Ba]
 have hlo:BZ R=true:=gEg (gE4 hv).1
 have hbd:=(gE4 hlo).2.2.2
 have hb0:∀ s∈X,∀ x∈WD (R.getD s []),0<=x/\x<((1026:Nat):Int):=fun s hs x hx=>by
  obtain ⟨a,ha,rfl⟩:=C9.1 hx
  rw [gE2,gE1 (hXs s hs),gBF] at ha
  have:=hbd _ (gE6 (hXs s hs)) a ha
  omega
 (refine VV ?_;(repeat clear hK K);unhygienic intros)
 refine As (Dj 5 1 ?_) ?_
 ·simp only [go_sem]
 have htn:Ac ([]:List Int)=[]:=rfl
 refine Ab (fun i:Nat=>{ tm:=[(1,.a (.c (.t 1 (Ac (X.map Int.ofNat))))),(2,.a (.c (.p 0 0))),(5,.a (.c (.t 1 (Ac (XE R (X.take i) []))))),(6,.i i)],hp:=[.r ⟨27,1,false,[.t 1 (AK R)]⟩],n:=39,pin:=0 }) (fun i=>i<=X.length) (fun i=>X.length - i) 0 ?_ ?_ ?_
 ·omega
 ·simp only [gBq,XE,gAx,htn]
  exact W5
 rintro i hi K hK
 by_cases hlt:i<X.length
 rotate_left
 ·have d1:=Yq hlt
  have hke:X.take i=X:=gE7 (by omega)
  rw [hke,Sb]
  (refine VW (an @d1 (an @A2 @gAN.{0,0})) ?_;unhygienic intros)
  refine W3 ?_
  (refine VZ ?_;repeat clear hK K)
  (refine VV ?_;(repeat clear hK K);unhygienic intros)
  ((try refine Ak ?_);(try simp only [Ad,Ay]);refine AB (A8 [] rfl rfl) ?_;(try simp only [Yn,go_sem]);((try refine Ak ?_);(try refine Aa ?_);(try simp only [Ad,Ay]);refine AN (by first | exact .inl rfl | exact .inr rfl) rfl ?_;simp only [Vm,Cq,Ck,Cx,Tryz.results57,go_sem,true_and,and_true,Ap]))
 have d1:=Yp hlt
 have gX:(Ac (X.map Int.ofNat))[i]?=some (.v (.int .i64 (X[i]:Nat))):=Al (by rw [gAC,gE1 hlt];rfl)
 have hul:=hXs _ (gE6 hlt)
 have hTk:X.take (i+1)=X.take i++[X[i]]:=gE8 hlt
 have hsn:=PG R (X.take i) X[i] []
 rw [<- hTk] at hsn
 have hb1:=hb0 _ (gE6 hlt)
 have hacc:W9 (XE R (X.take i) [])/\∀ x∈XE R (X.take i) [],0<=x/\x<((1026:Nat):Int):=by
  refine ⟨Jt _ _ List.Pairwise.nil,fun x hx=>?_⟩
  rcases (Js _ _).1 hx with h | ⟨s,hs,h,_⟩
  ·simp at h
  exact hb0 s (gB8 hs) x h
 generalize X[i]=u at *
 generalize XE R (X.take i) []=acc at *
 have hRu:R.getD u []=R[u]:=by rw [gE2,gE1 hul];rfl
 have hin:=Hh R u hv hul hn hr
 rw [hRu] at hsn hb1
 have hil:=E7 (Nw R[u]) hb1
 generalize WD R[u]=l at *
 have hKo:=hK
 (refine VW (an @d1 (an @A2 @gAN.{0,0})) ?_;unhygienic intros)
 refine W2 ?_
 (refine VV ?_;unhygienic intros)
 refine Yr 5 [(0,1),(1,0),(2,0),(3,0),(4,1),(5,2),(6,0)] ?_
 (refine VS (an @gX (an @A2 @gAN.{0,0})) ?_;repeat clear hK K)
 (refine Qa hin ?_;intro K1 hK1)
 rintro _ _ ⟨rfl,rfl⟩
 (refine W1 ?_;clear hK1 K1)
 (refine VR ?_;repeat clear hK K)
 (refine VV ?_;(repeat clear hK K);unhygienic intros)
 refine Ab (fun k:Nat=>{ tm:=[(1,.a (.c (.t 1 (Ac (X.map Int.ofNat))))),(2,.a (.c (.p 0 0))),(5,.a (.c (.t 1 (Ac (XD (l.take k) acc))))),(6,.i i),(7,.a (.c (.t 1 (Ac l)))),(8,.i k)],hp:=[.r ⟨27,1,false,[.t 1 (AK R)]⟩],n:=39,pin:=0 }) (fun k=>k<=l.length) (fun k=>l.length - k) 0 ?_ ?_ ?_
 ·omega
 ·simp only [gBq,XD,gAx]
  exact W5
 rintro k hk K hK
 by_cases hlt2:k<l.length
 rotate_left
 ·have d2:=Yq hlt2
  have htr:l.take k=l:=gE7 (by omega)
  rw [htr,<- hsn]
  (refine VW (an @d2 @A2) ?_;unhygienic intros)
  refine W3 ?_
  (refine VZ ?_;repeat clear hK K)
  (refine VV ?_;(repeat clear hK K);unhygienic intros)
  refine W4 ?_
  refine hKo _ (i+1) (by omega) (by omega) ?_
  exact W5
 have d2:=Yp hlt2
 have gl:=Al (gE1 hlt2)
 have hsn2:=PF (l.take k) l[k] acc
 rw [<- gE8 hlt2] at hsn2
 have hql:(XD (l.take k) acc).length<=1026:=E7 (Jr _ _ hacc.1) fun x hx=>by
  rcases (Jq _ _).1 hx with h | ⟨h,_⟩
  ·exact hacc.2 x h
  exact hb1 x (gB8 h)
 generalize XD (l.take k) acc=q at *
 generalize l[k]=e at *
 cases he:(e != 0) with
 | true=>
  rw [he,if_pos rfl] at hsn2
  (refine VW (an @d2 @A2) ?_;unhygienic intros)
  refine W2 ?_
  (refine VW (an @A2 (an @gl @he)) ?_;unhygienic intros)
  refine W2 ?_
  (refine VW (an @A2 @gl) ?_;unhygienic intros)
  refine Yt (Ja q e (by omega)) ?_
  (refine VV ?_;(repeat clear hK K);unhygienic intros)
  refine W4 ?_
  refine hK _ (k+1) (by omega) (by omega) ?_
  rw [hsn2]
  exact W5
 | false=>
  rw [he,if_neg (by decide)] at hsn2
  (refine VW (an @d2 @A2) ?_;unhygienic intros)
  refine W2 ?_
  (refine VW (an @A2 (an @gl @he)) ?_;unhygienic intros)
  refine W3 ?_
  (refine VV ?_;(repeat clear hK K);unhygienic intros)
  refine W4 ?_
  refine hK _ (k+1) (by omega) (by omega) ?_
  rw [hsn2]
  exact W5
def XF (S:List (List Nat)) (x:List Nat):Int:=if x∈S then (S.idxOf x:Nat) else -1
theorem KR {x:List Nat}:∀ {S:List (List Nat)} {i:Nat},S[i]?=some x->(∀ j y,j<i->S[j]?=some y->y ≠ x)->S.idxOf x=i
 | [],i,h,_=>by simp at h
 | y :: S,0,h,_=>by
  simp only [List.getElem?_cons_zero,gBI] at h
  subst h
  simp
 | y :: S,i+1,h,hno=>by
  have hy:y ≠ x:=hno 0 y (by omega) rfl
  rw [List.idxOf_cons]
  have:(y == x)=false:=by simpa using hy
  rw [this]
  have:=KR (S:=S) (i:=i) (by simpa using h) fun j z hj hz=>hno (j+1) z (by omega) (by simpa using hz)
  simp only [cond_false,this]
theorem NF (S:List (List Nat)) (x:List Nat) (hS:∀ y∈S,y.length<=1000000) (hx:x.length<=1000000) (hSn:S.length<=1000000):
  FC Tryz.prog 59 [.a (.c (.s 0 S.length)),.a (.c (.t 1 (Ac (x.map Int.ofNat))))] [.r ⟨37,1,true,Au (Xu S)⟩] (fun r o=>o=[.r ⟨37,1,true,Au (Xu S)⟩]/\r=.i (XF S x)):=by
 refine A7 Tryz.func59 rfl (by rw [Tryz.ntmps59];simp) ?_
 rw [Tryz.ntmps59]
 simp only [B4]
 have hcS:(Au (Xu S)).length=S.length:=by simp [Au,Xu]
 (refine VV ?_;(repeat clear hK K);unhygienic intros)
 refine Ab (fun i:Nat=>{ tm:=[(0,.a (.c (.s 0 S.length))),(1,.a (.c (.t 1 (Ac (x.map Int.ofNat))))),(5,.i i)],hp:=[.r ⟨37,1,true,Au (Xu S)⟩],n:=19,pin:=1 }) (fun i=>i<=S.length/\∀ j y,j<i->S[j]?=some y->y ≠ x) (fun i=>S.length - i) 0 ?_ ?_ ?_
 ·exact ⟨by omega,by intro i y hi;omega⟩
 ·exact W5
 rintro i ⟨hi,hno⟩ K hK
 by_cases hlt:i<S.length
 rotate_left
 ·have d1:=Yq hlt
  (refine VW @d1 ?_;unhygienic intros)
  refine W3 ?_
  (refine VZ ?_;repeat clear hK K)
  (refine VV ?_;(repeat clear hK K);unhygienic intros)
  refine W7 [0] Tryz.results59 @BD ?_
  unfold XF
  rw [if_neg fun h=>?_]
  obtain ⟨j,hj⟩:=gB6.1 h
  exact hno j x (by have:=(List.getElem?_eq_some_iff.1 hj).1;omega) hj rfl
 have d1:=Yp hlt
 have hg:=gE1 hlt
 have gC:(Au (Xu S))[i]?=some (.t 1 (Ac (S[i].map Int.ofNat))):=by simp [Au,Xu,hg]
 have hyn:=hS _ (gE6 hlt)
 generalize S[i]=y at *
 have hint:=Hp (y.map Int.ofNat) (x.map Int.ofNat) (by rw [gAN];omega) (by rw [gAN];omega)
 have hinj:y.map Int.ofNat=x.map Int.ofNat↔y=x:=List.map_inj_right fun a b h=>Int.ofNat.inj h
 (refine VW @d1 ?_;unhygienic intros)
 refine W2 ?_
 (refine VW (an @gC @hcS) ?_;unhygienic intros)
 refine Yt hint ?_
 (refine VV ?_;(repeat clear hK K);unhygienic intros)
 (refine Ah ?_;intro X Y hX hY;simp only [go_sem])
 refine ⟨fun h=>hX ?_,fun h=>hY ?_⟩
 ·have he:y=x:=hinj.1 (gE4 h)
  clear hX hY X Y
  (refine VV ?_;(repeat clear hK K);unhygienic intros)
  refine W7 [0] Tryz.results59 @BD ?_
  unfold XF
  subst he
  rw [if_pos (gE9 hg),KR hg hno]
 have he:¬ y=x:=fun q=>of_decide_eq_false h (hinj.2 q)
 clear hX hY X Y
 (refine VV ?_;(repeat clear hK K);unhygienic intros)
 refine W4 ?_
 refine hK _ (i+1) ⟨by omega,fun j z hj hz=>?_⟩ (by omega) ?_
 rotate_left
 ·exact W5
 by_cases e:j=i
 ·subst e;rw [hg] at hz;cases hz;exact he
 exact hno j z (by omega) hz
end Go.Proofs.YtbnabodoabimnaaGreat
namespace Go.Proofs.YtbnabodoabimnaaGreat
set_option linter.unusedVariables false
set_option linter.unusedSimpArgs false
open Go.RowKit
set_option maxRecDepth 100000
theorem GE (xs:List (List Int)) (n:Nat):(Au xs).take n=Au (xs.take n):=by simp [Au,List.map_take]
theorem GF (xs:List (List Int)) (n:Nat):(Au xs).drop n=Au (xs.drop n):=by simp [Au,List.map_drop]
theorem Ir (xs ys:List (List Int)):Au xs++Au ys=Au (xs++ys):=by simp [Au]
theorem Is (xs:List (List Int)):(Au xs).all C.one=true:=by simp [Au,C.one]
theorem GG (xs:List (List Int)) (x:List Int):Au xs++[.t 1 (Ac x)]=Au (xs++[x]):=by simp [Au]
theorem CF (xs:List (List Int)) (n:Nat):(Az xs).take n=Az (xs.take n):=by simp [Az,List.map_take]
theorem GH (xs:List (List Int)) (n:Nat):(Az xs).drop n=Az (xs.drop n):=by simp [Az,List.map_drop]
theorem NG (xs:List (List Int)):(Az xs).map C.ofTr=Au xs:=JW xs
theorem TM (L:List (List Int)):Fz (Au L) (Az L):=by unfold Au Az;exact Fz.map fun x _=>.inl rfl
theorem NH {x:List Int}:∀ {xs:List (List Int)} {k:Nat},k<=xs.length->(∀ i y,i<k->xs[i]?=some y->Bi y x=true)->(∀ y,xs[k]?=some y->Bi y x=false/\y ≠ x)->Gi x xs=xs.take k++x :: xs.drop k
 | [],k,hk,_,_=>by simp at hk;subst hk;rfl
 | y :: ys,0,_,_,h2=>by
  obtain ⟨h3,h4⟩:=h2 y rfl
  simp only [Gi,gBq,gAs,gBc]
  rw [if_neg (by rw [h3];simp),if_neg h4]
 | y :: ys,k+1,hk,h1,h2=>by
  have:=h1 0 y (by omega) rfl
  simp only [Gi,gBp,gAr,gAm]
  rw [if_pos this,NH (by simpa using hk) (fun i z hi hz=>h1 (i+1) z (by omega) hz) (fun z hz=>h2 z hz)]
theorem KS {x:List Int}:∀ {xs:List (List Int)} {k:Nat},(∀ i y,i<k->xs[i]?=some y->Bi y x=true)->xs[k]?=some x->Gi x xs=xs
 | [],k,_,h=>by simp at h
 | y :: ys,0,_,h=>by simp at h;subst h;simp [Gi,CK]
 | y :: ys,k+1,h1,h=>by
  have:=h1 0 y (by omega) rfl
  simp only [Gi]
  rw [if_pos this,KS (fun i z hi hz=>h1 (i+1) z (by omega) hz) h]

theorem NI (xs:List (List Int)) (x:List Int) (hn:xs.length<=100000000) (hx:x.length<=140737488355328) (hb:∀ y∈xs,y.length<=140737488355328):FC Tryz.prog 127 [AC xs,Ap x] [] (fun r o=>o=[]/\r=AC (Gi x xs)):=by
 refine A7 Tryz.func127 rfl (by rw [Tryz.ntmps127];simp) ?_
 rw [Tryz.ntmps127]
 simp only [B4,Ap,AC]
 (refine ai ?_;(repeat clear hK K);repeat refine kq fun K hK=>?_)
 refine Ab (fun k:Nat=>{ tm:=[(0,.a (.c (.t 1 (Az xs)))),(1,.a (.c (.t 1 (Ac x)))),(5,.i k)],hp:=[],n:=48,pin:=0 }) (fun k=>k<=xs.length/\∀ i y,i<k->xs[i]?=some y->Bi y x=true) (fun k=>xs.length - k) 0 ?_ ?_ ?_
 ·exact ⟨by omega,by intro i y hi;omega⟩
 ·exact W5
 rintro k ⟨hk,he⟩ K hK
 have fin:(∀ z,xs[k]?=some z->Bi z x=false/\z ≠ x)->Gi x xs=xs.take k++[x]++xs.drop k:=by
  intro h1
  rw [NH hk he h1];simp
 have hlen:(xs.take k++[x]++xs.drop k).length=k+1+(xs.length - k):=by simp;omega
 have hlen2:(xs.take k).length=k:=by simp;omega
 have hlen3:(xs.take k++[x]).length=k+1:=by simp;omega
 by_cases hlt:k<xs.length
 rotate_left
 ·have hl1:=Yq hlt
  (refine aj (an @hl1 @Ae) ?_;repeat refine kq fun K hK=>?_)
  refine W3 ?_
  (refine VZ ?_;repeat clear hK K)
  (refine aj (an @hl1 @Ae) ?_;repeat refine kq fun K hK=>?_)
  refine W3 ?_
  (refine aj (an @gBj.{0} (an @gBi.{0} (an @gBp.{0} (an @gBq.{0} (an @gAs.{0} (an @gAS.{0} (an @gAK.{0} (an @gAI.{0} (an @Ae (an @CF (an @GH (an @NG (an @CP (an @Is (an @GG (an @Ir (an @GE (an @GF (an (gBy hk) (an (gE7 (gBt hlen2)) (gE7 (gBt hlen3)))))))))))))))))))))) ?_;(repeat clear hK K);repeat refine kq fun K hK=>?_)
  ((try refine Ak ?_);(try simp only [Ad,Ay]);refine AB (B6 (r:=⟨37,1,true,Au (xs.take k++[x]++xs.drop k)⟩) 4 (Az (xs.take k++[x]++xs.drop k)) rfl (TM _) (show 0<(1:Nat) by omega)) ?_;refine AB (A8 [] rfl rfl) ?_;simp only [ST.frz,A0.frz,AV.frz,C.frz,gBu,gBj,gBi,go_sem,Ae,hlen,gBu,CF,gE7 (gBt hlen)];(try simp only [Yn,go_sem]);((try refine Ak ?_);(try refine Aa ?_);(try simp only [Ad,Ay]);refine AN (by first | exact .inl rfl | exact .inr rfl) rfl ?_;simp only [Vm,Cq,Ck,Cx,Tryz.results127,go_sem,true_and,and_true,Ae,hlen,gBu,CF,gE7 (gBt hlen)]))
  rw [fin (fun z hz=>by rw [gAB (by omega)] at hz;cases hz)]
 have hl1:=Yp hlt
 have hbk:=hb _ (gE6 hlt)
 (refine aj (an @hl1 (an @Ae (AR (gE1 hlt)))) ?_;repeat refine kq fun K hK=>?_)
 (refine AY rfl rfl (by simp only [go_sem] <;> rfl) ?_;intro K1 hK1;refine (Av (ids:=[]) (S9 xs[k] x hbk hx) rfl rfl (by simp only [go_sem]) (by kernel_rfl) (by (simp only [gAk,go_sem]) <;> rfl) ?_).stp)
 rintro _ _ ⟨rfl,rfl⟩
 (refine W1 ?_;clear hK1 K1)
 (refine ai ?_;(repeat clear hK K);repeat refine kq fun K hK=>?_)
 (refine Ah ?_;intro X Y hX hY;simp only [go_sem])
 refine ⟨fun h=>hX ?_,fun h=>hY ?_⟩
 ·clear hX hY X Y
  (refine ai ?_;(repeat clear hK K);repeat refine kq fun K hK=>?_)
  refine W4 ?_
  refine hK _ (k+1) ⟨by omega,fun i y hi hy=>?_⟩ (by omega) ?_
  rotate_left
  ·exact W5
  by_cases e:i=k
  ·subst e;rw [gE1 hlt] at hy;cases hy;exact h
  exact he i y (by omega) hy
 have hle:Bi xs[k] x=false:=h
 clear hX hY X Y
 (refine VZ ?_;repeat clear hK K)
 (refine aj (an @hl1 (an @Ae (AR (gE1 hlt)))) ?_;repeat refine kq fun K hK=>?_)
 (refine AY rfl rfl (by simp only [go_sem] <;> rfl) ?_;intro K1 hK1;refine (Av (ids:=[]) (Hp xs[k] x hbk hx) rfl rfl (by simp only [go_sem]) (by kernel_rfl) (by (simp only [gAk,go_sem]) <;> rfl) ?_).stp)
 rintro _ _ ⟨rfl,rfl⟩
 (refine W1 ?_;clear hK1 K1)
 (refine ai ?_;(repeat clear hK K);repeat refine kq fun K hK=>?_)
 (refine Ah ?_;intro X Y hX hY;simp only [go_sem])
 refine ⟨fun h=>hX ?_,fun h=>hY ?_⟩
 ·clear hX hY X Y
  (refine ai ?_;(repeat clear hK K);repeat refine kq fun K hK=>?_)
  refine W8 Tryz.results127 ?_
  rw [KS he (by rw [gE1 hlt];simpa using h)]
 have hne:xs[k] ≠ x:=by simpa using h
 clear hX hY X Y
 (refine aj (an @gBj.{0} (an @gBi.{0} (an @gBp.{0} (an @gBq.{0} (an @gAs.{0} (an @gAS.{0} (an @gAK.{0} (an @gAI.{0} (an @Ae (an @CF (an @GH (an @NG (an @CP (an @Is (an @GG (an @Ir (an @GE (an @GF (an (gBy hk) (an (gE7 (gBt hlen2)) (gE7 (gBt hlen3)))))))))))))))))))))) ?_;(repeat clear hK K);repeat refine kq fun K hK=>?_)
 ((try refine Ak ?_);(try simp only [Ad,Ay]);refine AB (B6 (r:=⟨37,1,true,Au (xs.take k++[x]++xs.drop k)⟩) 4 (Az (xs.take k++[x]++xs.drop k)) rfl (TM _) (show 0<(1:Nat) by omega)) ?_;refine AB (A8 [] rfl rfl) ?_;simp only [ST.frz,A0.frz,AV.frz,C.frz,gBu,gBj,gBi,go_sem,Ae,hlen,gBu,CF,gE7 (gBt hlen)];(try simp only [Yn,go_sem]);((try refine Ak ?_);(try refine Aa ?_);(try simp only [Ad,Ay]);refine AN (by first | exact .inl rfl | exact .inr rfl) rfl ?_;simp only [Vm,Cq,Ck,Cx,Tryz.results127,go_sem,true_and,and_true,Ae,hlen,gBu,CF,gE7 (gBt hlen)]))
 rw [fin (fun z hz=>by rw [gE1 hlt] at hz;cases hz;exact ⟨hle,hne⟩)]
end Go.Proofs.YtbnabodoabimnaaGreat
