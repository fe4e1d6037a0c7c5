/- Lemmas. -/
import Derived.Test.YtbnabodoabimnaaGreatZk
import Derived.Test.YtbnabodoabimnaaGreatG45
import Derived.Test.YtbnabodoabimnaaGreatG43
namespace Go.Proofs.YtbnabodoabimnaaGreat
set_option linter.unusedVariables false
set_option linter.unusedSimpArgs false
open Go.RowKit
set_option maxRecDepth 100000
attribute [local go_sem] lga C.pl C.one
theorem Zw {α:Type} (a b:α) (k m:Nat):(List.replicate k a++List.replicate (m+1) b).set k a=List.replicate (k+1) a++List.replicate m b:=by
 rw [gBh _ _ (by simp),gAP,gBC,gBg,gBj,List.replicate_succ' (n:=k),gAj];rfl
theorem YS {r:List Ar} {k:Nat} (h:k<r.length):(r.take (k+1)).foldl (fun acc a=>E5 a acc) []=E5 r[k] ((r.take k).foldl (fun acc a=>E5 a acc) []):=by
 rw [gE8 h,gAv];rfl
theorem YZ (r:List Ar) (k:Nat):((r.take k).foldl (fun acc a=>E5 a acc) []).length<=k:=by
 have:=Yu (r.take k) []
 simp only [gAO,gBD,gAS] at this
 omega
set_option maxHeartbeats 8000000 in
theorem YG (R:List (List Ar)) (h1:1<=R.length) (hbd:∀ r∈R,∀ a∈r,0<=a.2/\a.2<(R.length:Int)) (hn:R.length<=1000000) (hr:∀ r∈R,r.length<=1000000):FC Tryz.prog 75 [Ba R] [] (fun r o=>o=[.r ⟨27,1,false,[.t 1 (AK (AZ R).1)]⟩]/\r=.tup [.g [.t 1 (AK (AZ R).1)],.c (.t 1 (Ac (AZ R).2))]):=by
 refine A7 Tryz.func75 rfl (by rw [Tryz.ntmps75];simp) ?_
 rw [Tryz.ntmps75]
 simp only [B4,Ba]
 (refine aj @A6 ?_;(repeat clear hK K);repeat refine kq fun K hK=>?_)
 have e0:List.replicate R.length (C.v (.int .i64 0))=A9 (List.replicate R.length 0):=by simp [A9]
 rw [e0]
 refine Ab (fun k:Nat=>{ tm:=[(1,.a (.c (.p 0 0))),(2,.a (.c (.p 1 0))),(4,.a (.c (.s 2 R.length))),(5,.i k)],hp:=[.r ⟨27,1,false,[.t 1 (AK R)]⟩,.r ⟨27,1,false,[.v (.slice none 0 0)]⟩,.r ⟨3,1,true,A9 (List.replicate k (-1)++List.replicate (R.length - k) 0)⟩],n:=117,pin:=0 }) (fun k=>k<=R.length) (fun k=>R.length - k) 0 ?_ ?_ ?_
 ·omega
 ·simp only [List.replicate_zero,gBc,Nat.sub_zero]
  exact W5
 rintro k hk K hK
 by_cases hlt:k<R.length
 ·have d1:=Yp hlt
  obtain ⟨m,hm⟩:∃ m,R.length - k=m+1:=⟨R.length - k - 1,by omega⟩
  have hm2:R.length - (k+1)=m:=by omega
  have hl:(List.replicate k (-1:Int)++List.replicate (m+1) 0).length=R.length:=by simp;omega
  rw [hm]
  (refine aj (an @d1 (an @A4 @hl)) ?_;repeat refine kq fun K hK=>?_)
  refine W2 ?_
  (refine Zk (an @A4 (an @hl (an @Bj @Zw))) ?_;(repeat clear hK K);repeat refine kq fun K hK=>?_)
  refine W4 ?_
  refine hK _ (k+1) (by omega) (by omega) ?_
  rw [hm2]
  exact W5
 have d1:=Yq hlt
 have hke:k=R.length:=by omega
 rw [hke] at d1
 have e1:List.replicate R.length (-1:Int)++List.replicate (R.length - R.length) 0=List.replicate R.length (-1):=by simp
 have hlr:(List.replicate R.length (-1:Int)).length=R.length:=by simp
 rw [hke,e1]
 (refine aj (an @d1 (an @A4 @hlr)) ?_;repeat refine kq fun K hK=>?_)
 refine W3 ?_
 (refine VZ ?_;repeat clear hK K)
 have g0:0<(List.replicate R.length (-1:Int)).length:=by simp;omega
 (refine Zk (an @A4 (an @hlr @Bj)) ?_;(repeat clear hK K);repeat refine kq fun K hK=>?_)
 refine As (I6 24 1) ?_
 simp only [gAm,gBc]
 refine As (FU 4 0 5 (by decide) rfl rfl rfl) ?_
 simp only [gBj,gBi]
 refine Ab (fun x:Nat × List Int × List Int × List (List Ar)=>{ tm:=[(1,.a (.c (.p 0 0))),(2,.a (.c (.p 1 0))),(4,.a (.c (.s 2 R.length))),(6,.a (.c (.s 3 x.2.2.1.length))),(7,.a (.c (.p 4 0))),(8,.i x.1)],hp:=[.r ⟨27,1,false,[.t 1 (AK R)]⟩,.r ⟨27,1,false,[.v (.slice none 0 0)]⟩,.r ⟨3,1,true,A9 x.2.1⟩,.r ⟨3,1,true,A9 x.2.2.1⟩,.r ⟨27,1,false,[.s 5 x.1]⟩,.r ⟨24,1,true,Br x.2.2.2⟩],n:=117,pin:=0 }) (fun x=>NumOk R.length x.2.1 x.2.2.1/\CO R (R.length - x.1) x.1 x.2.1 x.2.2.1 x.2.2.2=AZ R/\x.1<=x.2.2.1.length/\x.2.2.2.length=x.1) (fun x=>R.length - x.1) (0,(List.replicate R.length (-1)).set 0 0,[0],[]) ?_ ?_ ?_
 ·exact ⟨NumOk.start h1,rfl,by simp,rfl⟩
 ·exact W5
 rintro ⟨i,num,old,out⟩ ⟨hN,hC,hio,hoi⟩ K hK
 simp only at hN hC hio hoi
 have hlen:=hN.len
 have hle:=hN.le
 by_cases hlt2:i<old.length
 rotate_left
 ·have d2:=Yq hlt2
  have hfin:AZ R=(out,old):=by rw [<- hC];exact Lu (by omega)
  (refine aj (an @d2 @A4) ?_;repeat refine kq fun K hK=>?_)
  refine W3 ?_
  (refine VZ ?_;repeat clear hK K)
  have htk:(AK out).take i=AK out:=gE7 (by rw [A6];omega)
  have htk2:(Ac old).take old.length=Ac old:=gE7 (by rw [A2];exact gBu _)
  refine As (AQ (r:=⟨24,1,true,Br out⟩) (ri:=⟨27,1,false,[.s 5 i]⟩) (ts:=AK out) 4 0 5 i (by decide) rfl rfl rfl rfl (show 0<1 by omega) (by simp only [AH,hoi];omega) (GZ _)) ?_
  simp only [go_sem]
  refine As (CI 4 rfl) ?_
  simp only [Vp,go_sem]
  (refine As (B6 (r:=⟨3,1,true,A9 old⟩) 3 (Ac old) rfl (ES _) (show 0<(1:Nat) by omega)) ?_;simp only [ST.frz,A0.frz,AV.frz,C.frz,gBu,gBj,gBi,go_sem,htk2,A2])
  (refine a8 ?_;(repeat clear hK K);repeat refine kq fun K hK=>?_)
  refine W6 [1] Tryz.results75 ?_
  rw [hfin]
  exact ⟨rfl,rfl⟩
 have d2:=Yp hlt2
 have hs0:=hN.st _ (gE6 hlt2)
 obtain ⟨sn,hsn⟩:∃ sn:Nat,old[i]=sn:=⟨old[i].toNat,by omega⟩
 have hsl:sn<R.length:=by omega
 have go:(A9 old)[i]?=some (.v (.int .i64 sn)):=by rw [<- hsn];exact At (gE1 hlt2)
 have hgR:=gE1 hsl
 have hrl:=hr _ (gE6 hsl)
 have hbr:=hbd _ (gE6 hsl)
 have hst:=Lw (rows:=R) (n:=R.length) (i:=i) (num:=num) (old:=old) (out:=out) (s:=(sn:Int)) (r:=R[sn]) (by omega) (by rw [gE1 hlt2,hsn]) (by simp [hgR]) rfl
 generalize hrr:R[sn]=r at *
 (refine aj (an @d2 @A4) ?_;repeat refine kq fun K hK=>?_)
 refine W2 ?_
 (refine ai ?_;(repeat clear hK K);repeat refine kq fun K hK=>?_)
 refine As (Dj 9 2 ?_) ?_
 ·simp only [go_sem]
 refine Ab (fun k:Nat=>{ tm:=[(1,.a (.c (.p 0 0))),(2,.a (.c (.p 1 0))),(4,.a (.c (.s 2 R.length))),(6,.a (.c (.s 3 old.length))),(7,.a (.c (.p 4 0))),(8,.i i),(9,.a (.c (.t 2 (Aw ((r.take k).foldl (fun acc a=>E5 a acc) []))))),(10,.i k)],hp:=[.r ⟨27,1,false,[.t 1 (AK R)]⟩,.r ⟨27,1,false,[.v (.slice none 0 0)]⟩,.r ⟨3,1,true,A9 num⟩,.r ⟨3,1,true,A9 old⟩,.r ⟨27,1,false,[.s 5 i]⟩,.r ⟨24,1,true,Br out⟩],n:=117,pin:=0 }) (fun k=>k<=r.length) (fun k=>r.length - k) 0 ?_ ?_ ?_
 ·omega
 ·simp only [gBq,gAx,show Aw ([]:List (Int × Int))=[] from rfl]
  exact W5
 rintro k hk K hK
 by_cases hlt3:k<r.length
 ·have d3:=Yp hlt3
  have hat:=AS hlt3
  have hsn3:=YS hlt3
  have hfl:=YZ r k
  generalize (r.take k).foldl (fun acc a=>E5 a acc) []=rk at *
  (refine ai ?_;repeat refine kq fun K hK=>?_)
  refine Yr 10 [(0,0),(1,0),(2,1),(3,0),(4,0),(5,0),(6,1),(7,0),(8,1),(9,0),(10,2)] ?_
  (refine VS (an @A6 (an (Ao hgR) (an @A4 (an @go (an @A3 (an @Aq @d3)))))) ?_;repeat clear hK K)
  refine W2 ?_
  (refine ai ?_;repeat refine kq fun K hK=>?_)
  refine Yr 12 [(0,0),(1,0),(2,1),(3,0),(4,0),(5,0),(6,1),(7,0),(8,1),(9,0),(10,0),(11,1),(12,2),(13,0)] ?_
  (refine VS (an @A6 (an (Ao hgR) (an @A4 (an @go (an @A3 (an @Aq @hat)))))) ?_;repeat clear hK K)
  (refine Qa (IW rk r[k] (by omega)) ?_;intro K1 hK1)
  rintro _ _ ⟨rfl,rfl⟩
  (simp only [Ap,AC,GX,Ys,go_sem];refine hK1 _ ?_;clear hK1 K1)
  (refine VR ?_;repeat clear hK K)
  (refine ai ?_;(repeat clear hK K);repeat refine kq fun K hK=>?_)
  refine W4 ?_
  refine hK _ (k+1) (by omega) (by omega) ?_
  rw [hsn3]
  exact W5
 have d3:=Yq hlt3
 have hq0:(r.take k).foldl (fun acc a=>E5 a acc) []=CN r:=by rw [gE7 (by omega)];rfl
 rw [hq0]
 (refine ai ?_;repeat refine kq fun K hK=>?_)
 refine Yr 10 [(0,0),(1,0),(2,1),(3,0),(4,0),(5,0),(6,1),(7,0),(8,1),(9,0),(10,2)] ?_
 (refine VS (an @A6 (an (Ao hgR) (an @A4 (an @go (an @A3 (an @Aq @d3)))))) ?_;repeat clear hK K)
 refine W3 ?_
 (refine VZ ?_;repeat clear hK K)
 have hqb:∀ a∈CN r,0<=a.2/\a.2<(R.length:Int):=fun a ha=>by
  rw [Ce] at ha
  exact hbr a ha
 have hql:=Yv r
 generalize hqd:CN r=q at *
 (refine ai ?_;(repeat clear hK K);repeat refine kq fun K hK=>?_)
 refine As (Dj 11 2 ?_) ?_
 ·simp only [go_sem]
 refine Ab (fun x:Nat × List Int × List Int × List Ar=>{ tm:=[(1,.a (.c (.p 0 0))),(2,.a (.c (.p 1 0))),(4,.a (.c (.s 2 R.length))),(6,.a (.c (.s 3 x.2.2.1.length))),(7,.a (.c (.p 4 0))),(8,.i i),(9,.a (.c (.t 2 (Aw q)))),(11,.a (.c (.t 2 (Aw x.2.2.2)))),(12,.i x.1)],hp:=[.r ⟨27,1,false,[.t 1 (AK R)]⟩,.r ⟨27,1,false,[.v (.slice none 0 0)]⟩,.r ⟨3,1,true,A9 x.2.1⟩,.r ⟨3,1,true,A9 x.2.2.1⟩,.r ⟨27,1,false,[.s 5 i]⟩,.r ⟨24,1,true,Br out⟩],n:=117,pin:=0 }) (fun x=>x.1<=q.length/\NumOk R.length x.2.1 x.2.2.1/\old.length<=x.2.2.1.length/\x.2.2.2.length<=x.1/\FW (q.drop x.1) x.2.1 x.2.2.1 x.2.2.2=FW q num old []) (fun x=>q.length - x.1) (0,num,old,[]) ?_ ?_ ?_
 ·exact ⟨by simp,hN,gBu _,by simp,rfl⟩
 ·simp only [show Aw ([]:List (Int × Int))=[] from rfl]
  exact W5
 rintro ⟨k,num1,old1,nxt⟩ ⟨hk,hN1,hol,hnl,hgo⟩ K hK
 simp only at hk hN1 hol hnl hgo
 have hlen1:=hN1.len
 have hle1:=hN1.le
 by_cases hlt4:k<q.length
 rotate_left
 ·have d4:=Yq hlt4
  rw [List.drop_of_length_le (by omega)] at hgo
  rw [<- hgo] at hst
  simp only [FW] at hst
  (refine aj (an @d4 (an @A3 @Aq)) ?_;repeat refine kq fun K hK=>?_)
  refine W3 ?_
  (refine VZ ?_;repeat clear hK K)
  have crp:=Yy out nxt hoi
  (refine Zk (an @AH (an @hoi @crp)) ?_;(repeat clear hK K);repeat refine kq fun K hK=>?_)
  refine W4 ?_
  refine hK _ (i+1,num1,old1,out++[nxt]) ⟨hN1,by simp only;rw [<- hC,hst],by simp only;omega,by simp [hoi]⟩ (by simp only;omega) ?_
  refine Le.trans (A8 [0,1,2,3,4,7] rfl rfl) ?_
  (try simp only [Yn,go_sem])
  (try simp only [A5,Cc])
  exact W5
 have d4:=Yp hlt4
 have hyb:=hqb _ (gE6 hlt4)
 obtain ⟨e,tn,hya⟩:∃ (e:Int) (tn:Nat),q[k]=(e,(tn:Int)):=⟨q[k].1,q[k].2.toNat,by
  have:(q[k].2.toNat:Int)=q[k].2:=by omega
  rw [this]⟩
 have htl:tn<R.length:=by rw [hya] at hyb;have:=hyb.2;simp only at this;omega
 have ha0:=DQ hlt4
 have ha1:=Fq hlt4
 rw [hya] at ha0 ha1
 have gn:(A9 num1)[tn]?=some (.v (.int .i64 num1[tn])):=At (gE1 (by omega))
 have gn2:num1[tn]?=some num1[tn]:=gE1 (by omega)
 have hdr:q.drop k=(e,(tn:Int)) :: q.drop (k+1):=by rw [gAp hlt4,hya]
 (refine aj (an @d4 (an @A3 @Aq)) ?_;(repeat clear hK K);repeat refine kq fun K hK=>?_)
 refine W2 ?_
 by_cases hx:num1[tn]<0
 rotate_left
 ·have d5:decide (num1[tn]<0)=false:=by simpa using hx
  (refine Zk (an @ha1 (an @A3 (an @Aq (an @gn (an @d5 (an @A4 @hlen1)))))) ?_;repeat refine kq fun K hK=>?_)
  refine W3 ?_
  (refine ai ?_;repeat refine kq fun K hK=>?_)
  refine Yr 15 [(0,0),(1,0),(2,0),(3,0),(4,0),(5,1),(6,0),(7,0),(8,0),(9,0),(10,0),(11,1),(12,0),(13,1),(14,0),(15,2),(16,0)] ?_
  (refine VS (an @ha0 (an @ha1 (an @A3 (an @Aq (an @A4 (an @hlen1 @gn)))))) ?_;repeat clear hK K)
  (refine Qa (IW nxt (e,num1[tn]) (by omega)) ?_;intro K1 hK1)
  rintro _ _ ⟨rfl,rfl⟩
  (simp only [Ap,AC,GX,Ys,go_sem];refine hK1 _ ?_;clear hK1 K1)
  (refine VR ?_;repeat clear hK K)
  (refine ai ?_;(repeat clear hK K);repeat refine kq fun K hK=>?_)
  refine W4 ?_
  have hin:=JZ (e,num1[tn]) nxt
  refine hK _ (k+1,num1,old1,E5 (e,num1[tn]) nxt) ⟨hlt4,hN1,hol,by simp only;omega,by simp only;rw [<- hgo,hdr,YU gn2 hx]⟩ (by simp only;omega) ?_
  exact W5
 have d5:decide (num1[tn]<0)=true:=by simpa using hx
 have gs:(A9 (num1.set tn (old1.length:Int)))[tn]?=some (.v (.int .i64 (old1.length:Int))):=At (gEc (by omega))
 have op:=Km old1 (tn:Int)
 (refine Zk (an @ha1 (an @A3 (an @Aq (an @gn (an @d5 (an @A4 @hlen1)))))) ?_;repeat refine kq fun K hK=>?_)
 refine W2 ?_
 (refine Zk (an @ha1 (an @A3 (an @Aq (an @A4 (an @hlen1 (an @Bj (an @op @gAQ.{0}))))))) ?_;repeat refine kq fun K hK=>?_)
 refine Yr 15 [(0,0),(1,0),(2,0),(3,0),(4,0),(5,1),(6,0),(7,0),(8,0),(9,0),(10,0),(11,1),(12,0),(13,1),(14,0),(15,2),(16,0)] ?_
 (refine VS (an @ha0 (an @ha1 (an @A3 (an @Aq (an @A4 (an @hlen1 (an @gs @gAQ.{0}))))))) ?_;repeat clear hK K)
 (refine Qa (IW nxt (e,(old1.length:Int)) (by omega)) ?_;intro K1 hK1)
 rintro _ _ ⟨rfl,rfl⟩
 (simp only [Ap,AC,GX,Ys,go_sem];refine hK1 _ ?_;clear hK1 K1)
 (refine VR ?_;repeat clear hK K)
 (refine ai ?_;(repeat clear hK K);repeat refine kq fun K hK=>?_)
 refine W4 ?_
 have hone:AM num1 old1 (tn:Int)=(num1.set tn (old1.length:Int),old1++[(tn:Int)]):=by
  simp only [AM,gAd,List.getD,gn2,gBF,if_pos hx]
 have hN2:=hN1.one (t:=(tn:Int)) (by omega) (by omega)
 rw [hone] at hN2
 have hin:=JZ (e,(old1.length:Int)) nxt
 refine hK _ (k+1,num1.set tn (old1.length:Int),old1++[(tn:Int)],E5 (e,(old1.length:Int)) nxt) ⟨hlt4,hN2,by simp;omega,by simp only;omega,by simp only;rw [<- hgo,hdr,YT gn2 hx rfl]⟩ (by simp only;omega) ?_
 refine Le.trans (A8 [0,1,2,7,4,5] rfl rfl) ?_
 (try simp only [Yn,go_sem])
 (try simp only [A5,Cc])
 simp only [gAI,gAJ,gAO]
 exact W5
end Go.Proofs.YtbnabodoabimnaaGreat
