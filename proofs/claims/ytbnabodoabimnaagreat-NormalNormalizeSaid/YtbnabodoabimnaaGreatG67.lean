/- Lemmas. -/
import Derived.Test.YtbnabodoabimnaaGreatZk
import Derived.Test.YtbnabodoabimnaaGreatG45
import Derived.Test.YtbnabodoabimnaaGreatG42
import Derived.Test.YtbnabodoabimnaaGreatG43
namespace Go.Proofs.YtbnabodoabimnaaGreat
set_option linter.unusedVariables false
set_option linter.unusedSimpArgs false
open Go.RowKit
set_option maxRecDepth 100000
attribute [local go_sem] lga C.pl C.one
def Ws (B:List Bool):List Tr:=B.map fun b=>.v (.bool b)
theorem DE (B:List Bool):(Ws B).length=B.length:=by simp [Ws]
theorem J5 {B:List Bool} {i:Nat} {b:Bool} (h:B[i]?=some b):(Ws B)[i]?=some (.v (.bool b)):=by simp [Ws,h]
theorem Rr (B:List Bool):Fz (Wm B) (Ws B):=by unfold Wm Ws;exact Fz.map fun x _=>.inl rfl
theorem LB (L:List (List Int)):(BU L).map Vp=Au L:=by simp [BU,Au,Vp,gAb]
theorem GC {L:List (List Int)} {i:Nat} {x:List Int} (h:L[i]?=some x):(BU L)[i]?=some (.o (1,3) (Ac x)):=by simp [BU,h]
theorem Um (L:List (List Int)):Fz (Au L) (Az L):=Fz.map fun x _=>.inl rfl
theorem Kn (L:List C) (s:Nat) (x y:C):(L.set s x).set s y=L.set s y:=by simp
set_option maxHeartbeats 2000000 in
theorem Rt (R:List (List Ar)) (D:List Int) (hlo:BZ R=true) (hD:D.length=R.length) (hn:R.length<=1000000) (hr:∀ r∈R,r.length<=1000000):FC Tryz.prog 107 [Ba R,Ap D] [] (fun r o=>r=.a (.c (.s 0 R.length))/\o=[.r ⟨4,1,true,Wm (Wr R D R.length)⟩]):=by
 refine A7 Tryz.func107 rfl (by rw [Tryz.ntmps107];simp) ?_
 rw [Tryz.ntmps107]
 simp only [B4,Ba,Ap]
 (refine aj @A6 ?_;(repeat clear hK K);repeat refine kq fun K hK=>?_)
 have e0:List.replicate R.length (C.v (.bool false))=Wm (Wr R D 0++List.replicate (R.length - 0) false):=by simp [Wm,Wr]
 rw [e0]
 refine Ab (fun k:Nat=>{ tm:=[(1,.a (.c (.t 1 (Ac D)))),(2,.a (.c (.p 0 0))),(5,.a (.c (.s 1 R.length))),(15,.i R.length),(16,.i k)],hp:=[.r ⟨27,1,false,[.t 1 (AK R)]⟩,.r ⟨4,1,true,Wm (Wr R D k++List.replicate (R.length - k) false)⟩],n:=43,pin:=0 }) (fun k=>k<=R.length) (fun k=>R.length - k) 0 ?_ ?_ ?_
 ·omega
 ·exact W5
 rintro k hk K hK
 by_cases hlt:k<R.length
 rotate_left
 ·have d1:=Yq hlt
  have hke:k=R.length:=by omega
  rw [hke] at d1
  rw [hke,gBC,List.replicate_zero,gAk]
  (refine aj @d1 ?_;repeat refine kq fun K hK=>?_)
  refine W3 ?_
  (refine VZ ?_;repeat clear hK K)
  (refine ai ?_;(repeat clear hK K);repeat refine kq fun K hK=>?_)
  exact Oj [1] Tryz.results107 @C8
 have d1:=Yp hlt
 have hgd:R.getD k []=R[k]:=by rw [gE2,gE1 hlt];rfl
 have htl:=Ki hlo (k:=k)
 have hac:=H4 R k true hlt (by omega) (by have:=hr _ (gE6 hlt);omega)
 have hll:=FY true R[k]
 have hrl:=hr _ (gE6 hlt)
 have hfin:(Wr R D k++List.replicate (R.length - k) false).set k (Wq D k (BP true R[k]))=Wr R D (k+1)++List.replicate (R.length - (k+1)) false:=by
  obtain ⟨m,hm⟩:∃ m,R.length - k=m+1:=⟨R.length - k - 1,by omega⟩
  have hm2:R.length - (k+1)=m:=by omega
  have hl:=F1 R D k
  rw [hm,hm2,gBg,gBh _ _ (by omega),hl,gBC,gBj]
  simp [Wr,List.range_succ,gE2,hlt]
 rw [hgd] at htl
 have hbl:(Wr R D k++List.replicate (R.length - k) false).length=R.length:=by simp [F1];omega
 have hini:(Wr R D k++List.replicate (R.length - k) false).set k false=Wr R D k++List.replicate (R.length - k) false:=by
  obtain ⟨m,hm⟩:∃ m,R.length - k=m+1:=⟨R.length - k - 1,by omega⟩
  rw [hm,gBg,gBh _ _ (by rw [F1];omega),F1,gBC,gBj]
 generalize Wr R D k++List.replicate (R.length - k) false=B at *
 generalize BP true R[k]=row at *
 (refine aj @d1 ?_;repeat refine kq fun K hK=>?_)
 refine W2 ?_
 (refine ai ?_;repeat refine kq fun K hK=>?_)
 refine Yt hac ?_
 (refine aj (an @A3 @Aq) ?_;(repeat clear hK K);repeat refine kq fun K hK=>?_)
 refine Ab (fun j:Nat=>{ tm:=[(1,.a (.c (.t 1 (Ac D)))),(2,.a (.c (.p 0 0))),(5,.a (.c (.s 1 R.length))),(6,.i k),(15,.i R.length),(16,.i k),(21,.a (.c (.t 2 (Aw row)))),(22,.i row.length),(23,.i j)],hp:=[.r ⟨27,1,false,[.t 1 (AK R)]⟩,.r ⟨4,1,true,Wm (B.set k (Wq D k (row.take j)))⟩],n:=43,pin:=0 }) (fun j=>j<=row.length) (fun j=>row.length - j) 0 ?_ ?_ ?_
 ·omega
 ·have e1:Wq D k []=false:=rfl
  rw [gBq,e1,hini]
  exact W5
 rintro j hj K hK
 by_cases hlt2:j<row.length
 rotate_left
 ·have d2:=Yq hlt2
  have hje:row.take j=row:=gE7 (by omega)
  rw [hje,hfin]
  (refine aj @d2 ?_;repeat refine kq fun K hK=>?_)
  refine W3 ?_
  (refine VZ ?_;repeat clear hK K)
  (refine ai ?_;(repeat clear hK K);repeat refine kq fun K hK=>?_)
  refine W4 ?_
  refine hK _ (k+1) (by omega) (by omega) ?_
  exact W5
 have d2:=Yp hlt2
 have hat:=AS hlt2
 have htj:=htl _ (gE6 hlt2)
 have hsn:=Pa D k (row.take j) row[j]
 rw [<- gE8 hlt2] at hsn
 generalize row[j]=a at *
 obtain ⟨e,t⟩:=a
 simp only at hat htj hsn
 obtain ⟨tn,rfl⟩:∃ tn:Nat,t=(tn:Int):=⟨t.toNat,by omega⟩
 have htn:tn<D.length:=by omega
 rw [gAd,gE2,gE2,gE1 htn,gE1 (show k<D.length by omega),gBF,gBF] at hsn
 have gt:=Al (gE1 htn)
 have gk:=Al (gE1 (show k<D.length by omega))
 by_cases he:D[tn]=D[k]
 rotate_left
 ·have d3:(D[tn] == D[k])=false:=by simpa using he
  rw [gBK he,Bool.or_false] at hsn
  (refine aj @d2 ?_;repeat refine kq fun K hK=>?_)
  refine W2 ?_
  (refine Zk (an @hat (an @A3 @Aq)) ?_;repeat refine kq fun K hK=>?_)
  refine Yr 9 [(0,0),(1,0),(2,1),(3,0),(4,1),(5,0),(6,0),(7,0),(8,1),(9,2)] ?_
  (refine VS (an @gt (an @gk (an @A2 (an @hD @d3)))) ?_;repeat clear hK K)
  refine W3 ?_
  (refine ai ?_;(repeat clear hK K);repeat refine kq fun K hK=>?_)
  refine W4 ?_
  refine hK _ (j+1) (by omega) (by omega) ?_
  refine Le.trans (A8 [0,1] rfl rfl) ?_
  (try simp only [Yn,go_sem])
  (try simp only [C8])
  rw [hsn]
  exact W5
 have d3:(D[tn] == D[k])=true:=by simpa using he
 rw [gEg he,Bool.or_true] at hsn
 (refine aj @d2 ?_;repeat refine kq fun K hK=>?_)
 refine W2 ?_
 (refine Zk (an @hat (an @A3 @Aq)) ?_;repeat refine kq fun K hK=>?_)
 refine Yr 9 [(0,0),(1,0),(2,1),(3,0),(4,1),(5,0),(6,0),(7,0),(8,1),(9,2)] ?_
 (refine VS (an @gt (an @gk (an @A2 (an @hD @d3)))) ?_;repeat clear hK K)
 refine W2 ?_
 (refine Zk (an @CM (an @gAQ.{0} (an @hbl (an @FV @List.set_set.{0})))) ?_;(repeat clear hK K);repeat refine kq fun K hK=>?_)
 refine W4 ?_
 refine hK _ (j+1) (by omega) (by omega) ?_
 refine Le.trans (A8 [0,1] rfl rfl) ?_
 (try simp only [Yn,go_sem])
 (try simp only [C8])
 rw [hsn]
 exact W5
theorem Pb (R:List (List Ar)) (D:List Int) (hlo:BZ R=true) (hD:D.length=R.length) (hn:R.length<=1000000) (hr:∀ r∈R,r.length<=1000000):FC Tryz.prog 107 [Ba R,Ap D] [] (fun r o=>o=[]/\r=.a (.c (.t 1 (Ws (Wr R D R.length))))):=
 (Rt R D hlo hD hn hr).frz (Rr _) (by omega) (by rw [DE,F1];omega)
set_option maxHeartbeats 4000000 in
theorem Ru (R:List (List Ar)) (G:List Bool) (hlo:BZ R=true) (hG:G.length=R.length) (hn:R.length<=1000000) (hr:∀ r∈R,r.length<=1000000):FC Tryz.prog 106 [Ba R,.a (.c (.t 1 (Ws G)))] [] (fun r o=>∃ O:List Int,(O.length=R.length/\∀ s,s<R.length->(0<=Wh O (-1) s↔∃ g,g<R.length/\G.getD g false=true/\Rc (Wi true R) s g))/\r=.a (.c (.s 0 R.length))/\o=[Be O]):=by
 refine A7 Tryz.func106 rfl (by rw [Tryz.ntmps106];simp) ?_
 rw [Tryz.ntmps106]
 simp only [B4,Ba]
 have h1:1<=R.length:=(gE4 hlo).1
 have htA:Ci R<=262144:=(gE4 hlo).2.2.1
 have hE:=Dq true hlo
 (refine aj @A6 ?_;(repeat clear hK K);repeat refine kq fun K hK=>?_)
 have e0:List.replicate R.length (C.o (1,3) [])=BU (Wp R 0):=by simp [BU,Wp,Ac]
 rw [e0]
 refine Ab (fun k:Nat=>{ tm:=[(1,.a (.c (.t 1 (Ws G)))),(2,.a (.c (.p 0 0))),(5,.a (.c (.s 1 R.length))),(22,.i R.length),(23,.i k)],hp:=[.r ⟨27,1,false,[.t 1 (AK R)]⟩,.r ⟨37,1,true,BU (Wp R k)⟩],n:=109,pin:=0 }) (fun k=>k<=R.length) (fun k=>R.length - k) 0 ?_ ?_ ?_
 ·omega
 ·exact W5
 rintro k hk K hK
 by_cases hlt:k<R.length
 ·have d1:=Yp hlt
  have hgd:R.getD k []=R[k]:=by rw [gE2,gE1 hlt];rfl
  have htl:=Ki hlo (k:=k)
  have hac:=H4 R k true hlt (by omega) (by have:=hr _ (gE6 hlt);omega)
  have hll:=FY true R[k]
  have hrl:=hr _ (gE6 hlt)
  have hsz:=Kj hlo k hk
  have hsz1:=IX R (k+1)
  have hsz2:=Da hlt
  have hfin:Wp R (k+1)=DZ k (Wp R k) (BP true R[k]):=by rw [Wp,hgd]
  rw [hgd] at htl
  generalize BP true R[k]=row at *
  (refine aj @d1 ?_;repeat refine kq fun K hK=>?_)
  refine W2 ?_
  (refine ai ?_;repeat refine kq fun K hK=>?_)
  refine Yt hac ?_
  (refine aj (an @A3 @Aq) ?_;(repeat clear hK K);repeat refine kq fun K hK=>?_)
  refine Ab (fun j:Nat=>{ tm:=[(1,.a (.c (.t 1 (Ws G)))),(2,.a (.c (.p 0 0))),(5,.a (.c (.s 1 R.length))),(6,.i k),(22,.i R.length),(23,.i k),(28,.a (.c (.t 2 (Aw row)))),(29,.i row.length),(30,.i j)],hp:=[.r ⟨27,1,false,[.t 1 (AK R)]⟩,.r ⟨37,1,true,BU (DZ k (Wp R k) (row.take j))⟩],n:=109,pin:=0 }) (fun j=>j<=row.length) (fun j=>row.length - j) 0 ?_ ?_ ?_
  ·omega
  ·simp only [gBq,DZ,gAx]
   exact W5
  rintro j hj K hK
  by_cases hlt2:j<row.length
  rotate_left
  ·have d2:=Yq hlt2
   have hje:row.take j=row:=gE7 (by omega)
   rw [hje,<- hfin]
   (refine aj @d2 ?_;repeat refine kq fun K hK=>?_)
   refine W3 ?_
   (refine VZ ?_;repeat clear hK K)
   (refine ai ?_;(repeat clear hK K);repeat refine kq fun K hK=>?_)
   refine W4 ?_
   refine hK _ (k+1) (by omega) (by omega) ?_
   exact W5
  have d2:=Yp hlt2
  have hat:=AS hlt2
  have htj:=htl _ (gE6 hlt2)
  have hsn:=LA k (Wp R k) (row.take j) row[j]
  rw [<- gE8 hlt2] at hsn
  generalize row[j]=a at *
  obtain ⟨e,t⟩:=a
  simp only at hat htj
  obtain ⟨tn,rfl⟩:∃ tn:Nat,t=(tn:Int):=⟨t.toNat,by omega⟩
  have htn:tn<R.length:=by omega
  have hol:(DZ k (Wp R k) (row.take j)).length=R.length:=by rw [Ia,FX]
  have hot:=MT k (row.take j) (Wp R k) (fun a ha=>by rw [FX];exact (htl a (gB8 ha)).2)
  rw [gAS] at hot
  generalize DZ k (Wp R k) (row.take j)=o at *
  have hrw:=Kg o tn
  have hgo:o[tn]?=some (o.getD tn []):=by
   rw [gE2,gE1 (by omega)];rfl
  have hA:Wo k o (e,(tn:Int))=o.set tn (o.getD tn []++[(k:Int)]):=rfl
  generalize o.getD tn []=oc at *
  (refine aj @d2 ?_;repeat refine kq fun K hK=>?_)
  refine W2 ?_
  (refine Zk (an @hat (an @A3 @Aq)) ?_;repeat refine kq fun K hK=>?_)
  refine YH [2] (.m 0 0 0 (.m 1 0 0 (.m 2 1 12 (.m 3 0 0 (.m 4 0 0 (.m 5 1 10 (.m 6 0 0 (.m 7 1 10 (.m 8 0 0 (.a 9 (.a 10 (.m 11 0 0 (.a 12 .e))))))))))))) ?_
  (refine VY (an @DT (an (GC hgo) @hol)) ?_;repeat clear hK K)
  (refine VL rfl rfl ?_;intro K1 hK1;refine Bl rfl ?_;simp only [go_sem];(first | refine hK1 _ ?_ | refine AE (hK1 _ ?_));clear hK1 K1)
  (refine E3 rfl rfl rfl ?_;intro K1 hK1;refine Cl rfl rfl rfl rfl (by first | rfl | simp only [Ct,gAz,gAy,hne,gAH,gA8,gAa,gA3,gA2]) rfl ?_;simp only [go_sem,Dz,A2,BG,GC hgo];(first | refine hK1 _ ?_ | refine AE (hK1 _ ?_));clear hK1 K1)
  (refine VY (an @DT @hol) ?_;repeat clear hK K)
  (refine VM rfl rfl rfl rfl ?_;intro K1 hK1;refine Bc rfl ?_;simp only [go_sem,DT,gAQ,Kn,hol];(first | refine hK1 _ ?_ | refine AE (hK1 _ ?_));clear hK1 K1)
  refine DY ⟨by simp,by simp,?_⟩
  (try simp only [Ad,Ay])
  refine hK _ ?_
  clear hK K
  have hj6:((BU o).set tn (C.s 4 (oc.length+1)))[tn]?=some (.s 4 (oc.length+1)):=by rw [gEc (by rw [DT];omega)]
  have hset6:((BU o).set tn (C.s 4 (oc.length+1))).set tn (.o (1,3) (Ac (oc++[(k:Int)])))=BU (o.set tn (oc++[(k:Int)])):=by rw [Kn,Ly]
  refine As (AQ (r:=⟨3,1,true,A9 (oc++[(k:Int)])⟩) (ri:=⟨37,1,true,(BU o).set tn (C.s 4 (oc.length+1))⟩) (ts:=Ac (oc++[(k:Int)])) 1 tn 4 (oc.length+1) (by decide) rfl hj6 rfl rfl (show 0<1 by omega) (by rw [A4];simp) (ES _)) ?_
  simp only [hset6,go_sem]
  (refine ai ?_;(repeat clear hK K);repeat refine kq fun K hK=>?_)
  refine W4 ?_
  refine hK _ (j+1) (by omega) (by omega) ?_
  refine Le.trans (A8 [0,1] rfl rfl) ?_
  (try simp only [Yn,go_sem])
  (try simp only [A5,Lz])
  rw [hsn,hA]
  exact W5
 have d1:=Yq hlt
 have hke:k=R.length:=by omega
 rw [hke] at d1
 rw [hke]
 (refine aj @d1 ?_;repeat refine kq fun K hK=>?_)
 refine W3 ?_
 (refine VZ ?_;repeat clear hK K)
 have hBl:=FX R R.length
 have hBm:=fun t x=>Rn hlo (t:=t) (x:=x) R.length
 have hsz:=Kj hlo R.length (gBu _)
 rw [gBn] at hsz
 generalize Wp R R.length=B at *
 refine As (CI 1 rfl) ?_
 simp only [LB,go_sem]
 have htk:(Az B).take R.length=Az B:=gE7 (by rw [Ae];omega)
 (refine As (B6 (r:=⟨37,1,true,Au B⟩) 1 (Az B) rfl (Um _) (show 0<(1:Nat) by omega)) ?_;simp only [ST.frz,A0.frz,AV.frz,C.frz,gBu,gBj,gBi,go_sem,htk,Ae,hBl])
 refine As (A8 [0] rfl rfl) ?_
 (try simp only [Yn,go_sem])
 (refine aj @A6 ?_;(repeat clear hK K);repeat refine kq fun K hK=>?_)
 (refine Aj rfl ?_;intro K1 hK1;refine Ax (ids:=[]) [1] (FS (-1) R.length h1 hn) rfl rfl (by simp only [go_sem]) (by first | assumption | kernel_rfl) rfl rfl (by (simp only [gAT,gAk,go_sem]) <;> rfl) (by (simp only [Vk,Be,A9,go_sem]) <;> rfl) ?_ ?_)
 ·rintro _ _ ⟨rfl,rfl⟩;rfl
 rintro _ _ ⟨rfl,rfl⟩
 (simp only [Ap,AC,Be,AL,Ys,go_sem];refine hK1 _ ?_;clear hK1 K1)
 (refine aj (an @DE @hG) ?_;(repeat clear hK K);repeat refine kq fun K hK=>?_)
 refine As (BJ 10 3 1 ?_) ?_
 ·simp only [go_sem]
 refine As (A8 [2,3] rfl rfl) ?_
 (try simp only [Yn,go_sem])
 (try simp only [A5])
 have hGl:∀ q:Nat,q<R.length->G[q]?=some (G.getD q false):=fun q hq=>by rw [gE2,gE1 (by omega)];rfl
 refine Ab (fun x:Nat × List Int × List Nat=>{ tm:=[(5,.a (.c (.t 1 (Az B)))),(9,.a (.c (.s 0 R.length))),(10,.a (.c (.s 1 x.2.2.length))),(53,.a (.c (.t 1 (Ws G)))),(54,.i R.length),(55,.i x.1)],hp:=[.r ⟨3,1,true,A9 x.2.1⟩,.r ⟨3,1,true,A9 (x.2.2.map Int.ofNat)⟩],n:=109,pin:=0 }) (fun x=>x.1<=R.length/\Bq (Wi true R) R.length (fun g=>G.getD g false=true) x.2.1 x.2.2/\(∀ g,g<x.1->G.getD g false=true->g∈x.2.2)/\∀ q∈x.2.2,q<x.1) (fun x=>R.length - x.1) (0,List.replicate R.length (-1),[]) ?_ ?_ ?_
 ·exact ⟨by simp,Bq.start _ _ _,by simp,by simp⟩
 ·simp only [gAX,gAO,A9]
  exact W5
 rintro ⟨k,O,Q⟩ ⟨hk,hq,hgo,hqk⟩ K hK
 simp only at hk hq hgo hqk
 have hQl:=hq.qlen
 have hOl:=hq.len
 by_cases hlt:k<R.length
 ·have d1:=Yp hlt
  have gb:=J5 (hGl k hlt)
  cases hb:G.getD k false with
  | true=>
   rw [hb] at gb
   have hnk:k ∉ Q:=fun h=>by have:=hqk k h;omega
   (refine aj @d1 ?_;repeat refine kq fun K hK=>?_)
   refine W2 ?_
   (refine aj (an @DE (an @hG @gb)) ?_;repeat refine kq fun K hK=>?_)
   refine W2 ?_
   (refine Zk (an @A4 (an @hOl (an @Bj (an @gAN.{0,0} (an @gBj.{0} (an @gBi.{0} (an @gBp.{0} (an @gBq.{0} (an @gAs.{0} (an @gAS.{0} (an @gAK.{0} (an @gAI.{0} (an @A2 (an @Bf (an @CC (an @Dz (an @A4 (an @CL (an @BG (an @D8 (an @BF @CB))))))))))))))))))))) ?_;(repeat clear hK K);repeat refine kq fun K hK=>?_)
   refine W4 ?_
   refine hK _ (k+1,O.set k 0,Q++[k]) ⟨by simp only;omega,hq.push hlt hnk (by omega) (by omega) ⟨k,hlt,hb,.refl k⟩,fun g hg1 hg2=>?_,fun q hq1=>?_⟩ (by simp only;omega) ?_
   ·rcases gBx g k with h | h
    ·exact gB1 _ (hgo g h hg2)
    have:g=k:=by simp only at hg1;omega
    subst this;simp
   ·simp only at hq1 ⊢
    rcases gB0.1 hq1 with h | h
    ·have:=hqk q h;omega
    simp at h;omega
   refine Le.trans (A8 [0,3] rfl rfl) ?_
   (try simp only [Yn,go_sem])
   (try simp only [A5])
   have htk:(Q.map Int.ofNat).take Q.length=Q.map Int.ofNat:=gE7 (by simp)
   simp only [htk,gAT,gAV,gAX,gAI,gAR]
   exact W5
  | false=>
   rw [hb] at gb
   (refine aj @d1 ?_;repeat refine kq fun K hK=>?_)
   refine W2 ?_
   (refine aj (an @DE (an @hG @gb)) ?_;repeat refine kq fun K hK=>?_)
   refine W3 ?_
   (refine ai ?_;(repeat clear hK K);repeat refine kq fun K hK=>?_)
   refine W4 ?_
   refine hK _ (k+1,O,Q) ⟨by simp only;omega,hq,fun g hg1 hg2=>?_,fun q hq1=>by have:=hqk q hq1;simp only;omega⟩ (by simp only;omega) ?_
   rotate_left
   ·exact W5
   rcases gBx g k with h | h
   ·exact hgo g h hg2
   have:g=k:=by simp only at hg1;omega
   subst this;rw [hb] at hg2;cases hg2
 have d1:=Yq hlt
 have hke:k=R.length:=by omega
 rw [hke] at d1 hgo
 rw [hke]
 (refine aj @d1 ?_;repeat refine kq fun K hK=>?_)
 refine W3 ?_
 (refine VZ ?_;repeat clear hK K)
 (refine ai ?_;(repeat clear hK K);repeat refine kq fun K hK=>?_)
 refine Ab (fun x:Nat × List Int × List Nat=>{ tm:=[(5,.a (.c (.t 1 (Az B)))),(9,.a (.c (.s 0 R.length))),(10,.a (.c (.s 1 x.2.2.length))),(13,.i x.1)],hp:=[.r ⟨3,1,true,A9 x.2.1⟩,.r ⟨3,1,true,A9 (x.2.2.map Int.ofNat)⟩],n:=109,pin:=0 }) (fun x=>x.1<=x.2.2.length/\Bq (Wi true R) R.length (fun g=>G.getD g false=true) x.2.1 x.2.2/\(∀ g,g<R.length->G.getD g false=true->g∈x.2.2)/\∀ j q,j<x.1->x.2.2[j]?=some q->∀ p,p<R.length->q∈Wi true R p->p∈x.2.2) (fun x=>R.length - x.1) (0,O,Q) ?_ ?_ ?_
 ·exact ⟨by simp,hq,hgo,fun j q h=>by simp at h⟩
 ·exact W5
 clear hq hgo hqk hQl hOl
 rintro ⟨i,O,Q⟩ ⟨hi,hq,hgo,hpd⟩ K hK
 simp only at hi hq hgo hpd
 have hQl:=hq.qlen
 have hOl:=hq.len
 by_cases hli:i<Q.length
 rotate_left
 ·have d2:decide ((i:Int)<(Q.length:Int))=false:=by simpa using hli
  (refine aj @d2 ?_;repeat refine kq fun K hK=>?_)
  refine W3 ?_
  (refine VZ ?_;repeat clear hK K)
  (refine ai ?_;(repeat clear hK K);repeat refine kq fun K hK=>?_)
  refine W7 [0] Tryz.results106 @A5 ?_
  refine ⟨O,⟨hOl,fun s hs=>hq.done hE hgo (fun q hqm p hp1 hp2=>?_) hs⟩,rfl⟩
  obtain ⟨j,hj⟩:=gB6.1 hqm
  exact hpd j q (by have:=(List.getElem?_eq_some_iff.1 hj).1;omega) hj p hp1 hp2
 have d2:decide ((i:Int)<(Q.length:Int))=true:=by simpa using hli
 have hql:=hq.lt _ (gE6 hli)
 have gq:(A9 (Q.map Int.ofNat))[i]?=some (.v (.int .i64 ((Q[i]:Nat):Int))):=At (by rw [gAC,gE1 hli];rfl)
 have hqi:=gE1 hli
 generalize Q[i]=q at *
 have gB:=AR (gE1 (show q<B.length by omega))
 have hpm:=hBm q
 have hgd:B.getD q []=B[q]:=by rw [gE2,gE1 (by omega)];rfl
 have hpl:=Kg B q
 simp only [hgd] at hpm hpl
 generalize B[q]=pre at *
 (refine aj @d2 ?_;repeat refine kq fun K hK=>?_)
 refine W2 ?_
 (refine aj (an @A4 (an @gAN.{0,0} (an @gq (an @Ae (an @hBl (an @gB @A2)))))) ?_;(repeat clear hK K);repeat refine kq fun K hK=>?_)
 refine Ab (fun x:Nat × List Int × List Nat=>{ tm:=[(5,.a (.c (.t 1 (Az B)))),(9,.a (.c (.s 0 R.length))),(10,.a (.c (.s 1 x.2.2.length))),(13,.i i),(81,.a (.c (.t 1 (Ac pre)))),(82,.i pre.length),(83,.i x.1)],hp:=[.r ⟨3,1,true,A9 x.2.1⟩,.r ⟨3,1,true,A9 (x.2.2.map Int.ofNat)⟩],n:=109,pin:=0 }) (fun x=>x.1<=pre.length/\i<x.2.2.length/\Bq (Wi true R) R.length (fun g=>G.getD g false=true) x.2.1 x.2.2/\(∀ g,g<R.length->G.getD g false=true->g∈x.2.2)/\(∀ j q,j<i->x.2.2[j]?=some q->∀ p,p<R.length->q∈Wi true R p->p∈x.2.2)/\x.2.2[i]?=some q/\∀ j (p:Nat),j<x.1->pre[j]?=some (p:Int)->p∈x.2.2) (fun x=>pre.length - x.1) (0,O,Q) ?_ ?_ ?_
 ·exact ⟨by simp,hli,hq,hgo,hpd,hqi,fun j p h=>by simp at h⟩
 ·exact W5
 clear hq hgo hQl hOl hi hli d2 gq hqi hpd
 rintro ⟨m,O,Q⟩ ⟨hm,hli,hq,hgo,hpd,hqi,hpm2⟩ K hK
 simp only at hm hli hq hgo hpd hqi hpm2
 have hQl:=hq.qlen
 have hOl:=hq.len
 by_cases hlm:m<pre.length
 rotate_left
 ·have d3:decide ((m:Int)<(pre.length:Int))=false:=by simpa using hlm
  (refine aj @d3 ?_;repeat refine kq fun K hK=>?_)
  refine W3 ?_
  (refine VZ ?_;repeat clear hK K)
  (refine ai ?_;(repeat clear hK K);repeat refine kq fun K hK=>?_)
  refine W4 ?_
  refine hK _ (i+1,O,Q) ⟨by simp only;omega,hq,hgo,fun j q' hj hj2 p hp1 hp2=>?_⟩ (by simp only;omega) ?_
  rotate_left
  ·exact W5
  simp only at hj hj2 ⊢
  by_cases e:j=i
  rotate_left
  ·exact hpd j q' (by omega) hj2 p hp1 hp2
  subst e
  rw [hqi] at hj2
  injection hj2 with hj2
  subst hj2
  have hin:=(hpm (p:Int)).2 ⟨p,hp1,rfl,hp2⟩
  obtain ⟨j2,hj3⟩:=gB6.1 hin
  exact hpm2 j2 p (by have:=(List.getElem?_eq_some_iff.1 hj3).1;omega) hj3
 have d3:decide ((m:Int)<(pre.length:Int))=true:=by simpa using hlm
 have gp:=Al (gE1 hlm)
 obtain ⟨p,hp1,hp2,hp3⟩:=(hpm pre[m]).1 (gE6 hlm)
 have hpe:=gE1 hlm
 rw [hp2] at gp hpe
 have gO:(A9 O)[p]?=some (.v (.int .i64 O[p])):=At (gE1 (by omega))
 have hOp:Wh O (-1) p=O[p]:=BQ (by omega)
 have hOq:Wh O (-1) q=O[q]:=BQ (by omega)
 have hiff:=hq.iff p hp1
 have hqm:q∈Q:=gE9 hqi
 have h0q:=(hq.iff q hql).2 hqm
 have hhq:=hq.hi q
 by_cases hneg:O[p]<0
 rotate_left
 ·have d4:decide (O[p]<0)=false:=by simpa using hneg
  (refine aj @d3 ?_;repeat refine kq fun K hK=>?_)
  refine W2 ?_
  (refine aj (an @gp (an @A2 (an @A4 (an @hOl (an @gO @d4))))) ?_;repeat refine kq fun K hK=>?_)
  refine W3 ?_
  (refine ai ?_;(repeat clear hK K);repeat refine kq fun K hK=>?_)
  refine W4 ?_
  refine hK _ (m+1,O,Q) ⟨by simp only;omega,hli,hq,hgo,hpd,hqi,fun j p' hj hj2=>?_⟩ (by simp only;omega) ?_
  rotate_left
  ·exact W5
  simp only at hj hj2 ⊢
  by_cases e:j=m
  rotate_left
  ·exact hpm2 j p' (by omega) hj2
  subst e
  rw [hpe] at hj2
  injection hj2 with hj2
  have:p'=p:=by omega
  subst this
  exact hiff.1 (by omega)
 have d4:decide (O[p]<0)=true:=by simpa using hneg
 have hnp:p ∉ Q:=fun h=>by have:=hiff.2 h;omega
 have gOq:(A9 O)[q]?=some (.v (.int .i64 O[q])):=At (gE1 (by omega))
 have gqi:(A9 (Q.map Int.ofNat))[i]?=some (.v (.int .i64 (q:Int))):=At (by rw [gAC,hqi];rfl)
 have hb1:O[q]+1<=1000001:=by omega
 have hb0:0<=O[q]:=by omega
 (refine aj @d3 ?_;repeat refine kq fun K hK=>?_)
 refine W2 ?_
 (refine aj (an @gp (an @A2 (an @A4 (an @hOl (an @gO @d4))))) ?_;repeat refine kq fun K hK=>?_)
 refine W2 ?_
 (refine Zk (an @A4 (an @hOl (an @gOq (an @gqi (an @Bj (an @gAN.{0,0} (an @gBj.{0} (an @gBi.{0} (an @gBp.{0} (an @gBq.{0} (an @gAs.{0} (an @gAS.{0} (an @gAK.{0} (an @gAI.{0} (an @A2 (an @Bf (an @CC (an @Dz (an @A4 (an @CL (an @BG (an @D8 (an @BF @CB))))))))))))))))))))))) ?_;(repeat clear hK K);repeat refine kq fun K hK=>?_)
 refine W4 ?_
 refine hK _ (m+1,O.set p (O[q]+1),Q++[p]) ⟨by simp only;omega,by simp only [gAI,gAR];omega,hq.push hp1 hnp (by omega) (by omega) ?_,fun g hg1 hg2=>gB1 _ (hgo g hg1 hg2),fun j q' hj hj2 r hr hr2=>?_,?_,fun j p' hj hj2=>?_⟩ (by simp only;omega) ?_
 ·obtain ⟨g,g1,g2,g3⟩:=hq.rc q hqm
  exact ⟨g,g1,g2,(Rc.one hp3).trans g3⟩
 ·simp only at hj2
  rw [gEa (by omega)] at hj2
  exact gB1 _ (hpd j q' hj hj2 r hr hr2)
 ·simp only
  rw [gEa hli]
  exact hqi
 ·simp only at hj hj2 ⊢
  by_cases e:j=m
  rotate_left
  ·exact gB1 _ (hpm2 j p' (by omega) hj2)
  subst e
  rw [hpe] at hj2
  injection hj2 with hj2
  have:p'=p:=by omega
  subst this;simp
 refine Le.trans (A8 [0,3] rfl rfl) ?_
 (try simp only [Yn,go_sem])
 (try simp only [A5])
 have htk:(Q.map Int.ofNat).take Q.length=Q.map Int.ofNat:=gE7 (by simp)
 simp only [htk,gAT,gAV,gAX,gAI,gAR]
 exact W5
theorem FC.frzP {P:Program} {f:FuncId} {args:List AV} {e k:Nat} {α:Type} {n:α->Nat} {p:α->Prop} {cs:α->List C} {ts:α->List Tr} (h:FC P f args [] (fun r o=>∃ x,p x/\r=.a (.c (.s 0 (n x)))/\o=[.r ⟨e,k,true,cs x⟩])) (hz:∀ x,Fz (cs x) (ts x)) (hk:0<k) (hn:∀ x,p x->n x*k=(ts x).length):
  FC P f args [] (fun r o=>∃ x,p x/\o=[]/\r=.a (.c (.t k (ts x)))):=by
 intro g w vals hr ha
 refine (h g w vals hr ha).mono ?_
 rintro x w' ⟨v,r,outs,g',rfl,⟨y,hy,rfl,rfl⟩,h1,h2,h3,h4,h5⟩
 have hn:=hn y hy
 have hz:=hz y
 have hR:RelG g' (Gg [] g) w { tm:=[(0,.a (.c (.s 0 (n y))))],hp:=[.r ⟨e,k,true,cs y⟩],n:=1,pin:=0 } { tmps:=#[v],defers:=[] } w':=by
  refine ⟨h1,h3,fun d=>?_,rfl,rfl,h5⟩
  simp only [ST.get,Ek]
  split
  ·rename_i hd;subst hd;exact h4
  trivial
 have hF:=hR.freeze (id:=0) (r:=⟨e,k,true,cs y⟩) rfl hz hk
 have hv:=hF.tm 0
 have e0:(ST.frz { tm:=[(0,.a (.c (.s 0 (n y))))],hp:=[.r ⟨e,k,true,cs y⟩],n:=1,pin:=0 } 0 k (ts y)).get 0=.a (.c (.t k (ts y))):=by
  simp only [ST.frz,ST.get,Ek,gAV,gAX,AV.frz,A0.frz,C.frz,if_true,hn,gBu,gBn]
 rw [show (({ tm:=[(0,.a (.c (.s 0 (n y))))],hp:=[.r ⟨e,k,true,cs y⟩],n:=1,pin:=0 }:ST).frz 0 (⟨e,k,true,cs y⟩:Row).k (ts y)).get 0=.a (.c (.t k (ts y))) from e0] at hv
 have hp:=hF.hr.pk (ρ:=[]) (M:=g'.M) (fun b hb=>.inl hb) hF.hr.ml (fun ℓ hl=>by
  cases ℓ with
  | ob i=>rcases hl with ⟨r,e1,_⟩ | ⟨kv,e1⟩ <;> simp [Vk] at e1
  | cl i j=>obtain ⟨r,_,_,e1,_⟩:=hl;simp [Vk] at e1) rfl
 have hv2:=AVR.ren (ρ:=[]) (M:=g'.M) (fun b hb=>.inl hb) hv
 refine ⟨v,.a (.c (.t k (ts y))),[],_,rfl,⟨y,hy,rfl,rfl⟩,hp,⟨gBu _,h2.2.1,fun i hi=>by simp at hi⟩,fun ℓ hl=>?_,hv2,h5⟩
 cases ℓ with
 | ob i=>rcases hl with ⟨r,e1,_⟩ | ⟨kv,e1⟩ <;> simp at e1
 | cl i j=>obtain ⟨r,_,_,e1,_⟩:=hl;simp at e1
theorem Pc (R:List (List Ar)) (G:List Bool) (hlo:BZ R=true) (hG:G.length=R.length) (hn:R.length<=1000000) (hr:∀ r∈R,r.length<=1000000):FC Tryz.prog 106 [Ba R,.a (.c (.t 1 (Ws G)))] [] (fun r o=>∃ O:List Int,(O.length=R.length/\∀ s,s<R.length->(0<=Wh O (-1) s↔∃ g,g<R.length/\G.getD g false=true/\Rc (Wi true R) s g))/\o=[]/\r=.a (.c (.t 1 (Ac O)))):=
 (Ru R G hlo hG hn hr).frzP (fun O=>ES O) (by omega) (fun O h=>by rw [A2];have:=h.1;omega)
theorem Pd (R:List (List Ar)) (t:Bool) (hv:C7 R=true) (h1:1<=R.length) (hn:R.length<=1000000) (hr:∀ r∈R,r.length<=1000000):FC Tryz.prog 108 [Ba R,.b t] [] (fun r o=>∃ D:List Int,(D.length=R.length/\∀ v,v<R.length->Least (Wi t R) v (Wh D (-1) v))/\o=[]/\r=.a (.c (.t 1 (Ac D)))):=
 ((Ri R t hv h1 hn hr).mono fun r o ⟨D,h1,h2,h3,h4⟩=>⟨D,⟨h1,h2⟩,h4,h3⟩).frzP (fun D=>ES D) (by omega) (fun D h=>by rw [A2];have:=h.1;omega)
def Wt (O:List Int) (k:Nat):List Bool:=(List.range k).map fun s=>decide (Wh O (-1) s>=0)
theorem J6 (O:List Int) (k:Nat):(Wt O k).length=k:=by simp [Wt]
def Wu (O:List Int) (n k:Nat):List Bool:=Wt O k++List.replicate (n - k) false
theorem Rv {O:List Int} {n k:Nat} (h:k<=n):(Wu O n k).length=n:=by simp [Wu,J6];omega
theorem Rw {O:List Int} {n k:Nat} (h:k<n) (hO:k<O.length):(Wu O n k).set k (decide (O[k]>=0))=Wu O n (k+1):=by
 obtain ⟨m,hm⟩:∃ m,n - k=m+1:=⟨n - k - 1,by omega⟩
 have hm2:n - (k+1)=m:=by omega
 have hl:=J6 O k
 have hOk:Wh O (-1) k=O[k]:=BQ hO
 unfold Wu
 rw [hm,hm2,gBg,gBh _ _ (by omega),hl,gBC,gBj]
 simp [Wt,List.range_succ,hOk]
theorem Rx (O:List Int) (n:Nat):Wu O n n=Wt O n:=by simp [Wu]
set_option maxHeartbeats 2000000 in
theorem Tq (R:List (List Ar)) (hv:C7 R=true) (hn:R.length<=1000000) (hr:∀ r∈R,r.length<=1000000):FC Tryz.prog 78 [Ba R] [] (fun r o=>∃ B,DvL R B/\r=.a (.c (.s 0 R.length))/\o=[.r ⟨4,1,true,Wm B⟩]):=by
 refine A7 Tryz.func78 rfl (by rw [Tryz.ntmps78];simp) ?_
 rw [Tryz.ntmps78]
 simp only [B4,Ba]
 have hlo:BZ R=true:=gEg (gE4 hv).1
 have h1:1<=R.length:=(gE4 hlo).1
 (refine ai ?_;repeat refine kq fun K hK=>?_)
 refine Yt (H5 R (by omega) (fun r h=>by have:=hr r h;omega)) ?_
 (refine aj (an @hv @gA9) ?_;repeat refine kq fun K hK=>?_)
 refine W3 ?_
 (refine ai ?_;repeat refine kq fun K hK=>?_)
 refine YH [0] (.m 2 1 3 (.m 1 1 4 (.m 0 1 5 (.a 3 (.a 4 (.a 5 (.m 6 0 0 .e))))))) ?_
 (refine VX ?_;repeat clear hK K)
 (refine E3 rfl rfl rfl ?_;intro K1 hK1;refine yX [] ?_;refine xz [] (Pd R true hv h1 hn hr) ?_ ?_)
 ·rintro _ _ ⟨_,_,rfl,rfl⟩ i o hi hl;simp at hl
 rintro _ _ ⟨D,⟨hD,hL⟩,rfl,rfl⟩
 (refine W1 ?_;clear hK1 K1)
 (refine VX ?_;repeat clear hK K)
 (refine E3 rfl rfl rfl ?_;intro K1 hK1;refine yX [] ?_;refine xz [] (Pb R D hlo hD hn hr) ?_ ?_)
 ·rintro _ _ ⟨rfl,rfl⟩ i o hi hl;simp at hl
 rintro _ _ ⟨rfl,rfl⟩
 (refine W1 ?_;clear hK1 K1)
 (refine VX ?_;repeat clear hK K)
 (refine E3 rfl rfl rfl ?_;intro K1 hK1;refine yX [] ?_;refine xz [] (Pc R (Wr R D R.length) hlo (F1 _ _ _) hn hr) ?_ ?_)
 ·rintro _ _ ⟨_,_,rfl,rfl⟩ i o hi hl;simp at hl
 rintro _ _ ⟨O,⟨hO,hOi⟩,rfl,rfl⟩
 (refine W1 ?_;clear hK1 K1)
 (refine VX ?_;repeat clear hK K)
 (refine aj @A6 ?_;(repeat clear hK K);repeat refine kq fun K hK=>?_)
 have e0:List.replicate R.length (C.v (.bool false))=Wm (Wu O R.length 0):=by simp [Wm,Wt,Wu]
 rw [e0]
 refine Ab (fun k:Nat=>{ tm:=[(3,.a (.c (.t 1 (Ac O)))),(4,.a (.c (.s 1 R.length))),(20,.i R.length),(21,.i k)],hp:=[.r ⟨27,1,false,[.t 1 (AK R)]⟩,.r ⟨4,1,true,Wm (Wu O R.length k)⟩],n:=34,pin:=0 }) (fun k=>k<=R.length) (fun k=>R.length - k) 0 ?_ ?_ ?_
 ·omega
 ·exact W5
 rintro k hk K hK
 by_cases hlt:k<R.length
 ·have d1:=Yp hlt
  have gO:=Al (gE1 (show k<O.length by omega))
  have hOk:Wh O (-1) k=O[k]:=BQ (by omega)
  have hbl:=Rv (O:=O) hk
  have hset:=Rw hlt (show k<O.length by omega)
  (refine aj @d1 ?_;repeat refine kq fun K hK=>?_)
  refine W2 ?_
  (refine Zk (an @A2 (an @hO (an @gO (an @CM (an @hbl (an @FV @hset)))))) ?_;(repeat clear hK K);repeat refine kq fun K hK=>?_)
  refine W4 ?_
  refine hK _ (k+1) (by omega) (by omega) ?_
  exact W5
 have d1:=Yq hlt
 have hke:k=R.length:=by omega
 rw [hke] at d1
 rw [hke,Rx]
 (refine aj @d1 ?_;repeat refine kq fun K hK=>?_)
 refine W3 ?_
 (refine VZ ?_;repeat clear hK K)
 (refine ai ?_;(repeat clear hK K);repeat refine kq fun K hK=>?_)
 refine W7 [1] Tryz.results78 @C8 ?_
 refine ⟨_,⟨J6 _ _,fun s hs=>?_⟩,rfl⟩
 have hgo:(Wt O R.length).getD s false=decide (Wh O (-1) s>=0):=by simp [Wt,gE2,hs]
 rw [hgo,decide_eq_true_iff]
 show 0<=Wh O (-1) s↔_
 rw [hOi s hs]
 constructor
 ·rintro ⟨g,g1,g2,g3⟩
  exact ⟨g,g3,(MW hlo hD hL g1).1 g2⟩
 rintro ⟨g,g3,g4⟩
 have g1:=g3.lt hs (Dq true hlo)
 exact ⟨g,g1,(MW hlo hD hL g1).2 g4,g3⟩
theorem J7 (R:List (List Ar)) (hv:C7 R=true) (hn:R.length<=1000000) (hr:∀ r∈R,r.length<=1000000):FC Tryz.prog 78 [Ba R] [] (fun r o=>∃ B,DvL R B/\o=[]/\r=.a (.c (.t 1 (Ws B)))):=
 (Tq R hv hn hr).frzP (fun B=>Rr B) (by omega) (fun B h=>by rw [DE];have:=h.1;omega)
end Go.Proofs.YtbnabodoabimnaaGreat
