/- Lemmas. -/
import Derived.Test.YtbnabodoabimnaaGreatZk
import Derived.Test.YtbnabodoabimnaaGreatNw5
import Derived.Test.YtbnabodoabimnaaGreatG45
import Derived.Test.YtbnabodoabimnaaGreatMK
import Derived.Test.YtbnabodoabimnaaGreatShlfB
import Derived.Shelf.Slices.SearchI
namespace Go.Proofs.YtbnabodoabimnaaGreat
set_option linter.unusedVariables false
set_option linter.unusedSimpArgs false
open Go.RowKit
set_option maxRecDepth 100000
theorem Ju (L:List (List Int)) (s:List Int) {j:Nat} (h:j<L.length):((L.take (j+1)).all fun o=>!(decide (o.length<s.length) && Dp o s))=(((L.take j).all fun o=>!(decide (o.length<s.length) && Dp o s)) && !(decide (L[j].length<s.length) && Dp L[j] s)):=by
 rw [gE8 h,List.all_append];simp
set_option maxHeartbeats 1000000 in
theorem Sd (L:List (List Int)) (hn:L.length<=1000000) (hb:∀ x∈L,x.length<=100000000):FC Tryz.prog 95 [AC L] [] (fun r o=>o=[]/\r=AC (D2 L)):=by
 refine A7 Tryz.func95 rfl (by rw [Tryz.ntmps95];simp) ?_
 rw [Tryz.ntmps95]
 simp only [B4,AC]
 (refine ai ?_;(repeat clear hK K);repeat refine kq fun K hK=>?_)
 refine Ab (fun k:Nat=>{ tm:=[(0,.a (.c (.t 1 (Az L)))),(3,.a (.c (.v (.slice none 0 0)))),(4,.i k)],hp:=[],n:=66,pin:=0 }) (fun k=>k<=L.length/\∀ i x,i<k->L[i]?=some x->Gb x=true) (fun k=>L.length - k) 0 ?_ ?_ ?_
 ·exact ⟨by omega,by intro i x hi;omega⟩
 ·exact W5
 rintro k ⟨hk,hno⟩ K hK
 (refine aj @Ae ?_;(repeat clear hK K);repeat refine kq fun K hK=>?_)
 (refine Ah ?_;intro X Y hX hY;simp only [go_sem])
 refine ⟨fun h=>hX ?_,fun h=>hY ?_⟩
 ·have hlt:k<L.length:=by simpa using h
  clear hX hY X Y h
  (refine aj (an @Ae (AR (gE1 hlt))) ?_;repeat refine kq fun K hK=>?_)
  refine Yt (Mu L[k] (gBv (hb _ (gE6 hlt)) (by omega))) ?_
  (refine ai ?_;(repeat clear hK K);repeat refine kq fun K hK=>?_)
  (refine Ah ?_;intro X Y hX hY;simp only [go_sem])
  refine ⟨fun h=>hX ?_,fun h=>hY ?_⟩
  rotate_left
  ·clear hX hY X Y
   have h1:Gb L[k]=true:=by simpa using h
   (refine ai ?_;(repeat clear hK K);repeat refine kq fun K hK=>?_)
   refine W4 ?_
   refine hK _ (k+1) ⟨by omega,fun i x hi hx=>?_⟩ (by omega) ?_
   rotate_left
   ·exact W5
   by_cases e:i=k
   ·subst e;rw [gE1 hlt] at hx;cases hx;exact h1
   exact hno i x (by omega) hx
  clear hX hY X Y
  (refine ai ?_;(repeat clear hK K);repeat refine kq fun K hK=>?_)
  refine Ak ?_
  simp only [Ad,Ay]
  refine AB (Dj 2 1 ?_) ?_
  ·simp only [go_sem]
  refine W8 Tryz.results95 ?_
  have h1:Gb L[k]=false:=by simpa using h
  have h2:L.all Gb=false:=by
   rw [List.all_eq_false]
   exact ⟨L[k],gE6 hlt,by simp [h1]⟩
  simp [D2,h2,Az]
 have hge:k=L.length:=by simp at h;omega
 clear hX hY X Y
 have hall:L.all Gb=true:=by
  rw [gAg]
  intro s hs
  obtain ⟨i,hi⟩:=gB6.1 hs
  exact hno i s (by rw [hge];exact (List.getElem?_eq_some_iff.1 hi).1) hi
 clear hno
 (refine VZ ?_;repeat clear hK K)
 (refine ai ?_;(repeat clear hK K);repeat refine kq fun K hK=>?_)
 refine As (Dj 3 1 ?_) ?_
 ·simp only [go_sem]
 refine Ab (fun p:Nat × List (List Int)=>{ tm:=[(0,.a (.c (.t 1 (Az L)))),(3,.a (.c (.t 1 (Az p.2)))),(5,.i p.1)],hp:=[],n:=66,pin:=0 }) (fun p=>p.1<=L.length/\p.2.length<=p.1/\(∀ s∈p.2,s∈L)/\Gj L (L.drop p.1) p.2=D2 L) (fun p=>L.length - p.1) (0,[]) ?_ ?_ ?_
 ·exact ⟨by omega,by simp,by simp,by simp [D2,hall]⟩
 ·(refine Bh ?_;simp only [CS,go_sem,Az,gAX];try simp)
 rintro ⟨k,acc⟩ ⟨hk,hal,hsub,he⟩ K hK
 simp only at hk hal hsub he ⊢
 (refine aj @Ae ?_;(repeat clear hK K);repeat refine kq fun K hK=>?_)
 (refine Ah ?_;intro X Y hX hY;simp only [go_sem])
 refine ⟨fun h=>hX ?_,fun h=>hY ?_⟩
 rotate_left
 ·have hge:L.length<=k:=by simpa using h
  clear hX hY X Y
  rw [gAq hge] at he
  simp only [Gj] at he
  (refine VZ ?_;repeat clear hK K)
  (refine ai ?_;(repeat clear hK K);repeat refine kq fun K hK=>?_)
  refine W8 Tryz.results95 ?_
  rw [he]
 have hlt:k<L.length:=by simpa using h
 clear hX hY X Y h
 have hbk:=hb _ (gE6 hlt)
 (refine ai ?_;(repeat clear hK K);repeat refine kq fun K hK=>?_)
 refine Ab (fun j:Nat=>{ tm:=[(0,.a (.c (.t 1 (Az L)))),(3,.a (.c (.t 1 (Az acc)))),(5,.i k),(6,.b ((L.take j).all fun o=>!(decide (o.length<L[k].length) && Dp o L[k]))),(7,.i j)],hp:=[],n:=66,pin:=0 }) (fun j=>j<=L.length) (fun j=>L.length - j) 0 ?_ ?_ ?_
 ·omega
 ·exact W5
 rintro j hj K hK
 have ht:=@Ju L L[k] j
 (refine aj @Ae ?_;(repeat clear hK K);repeat refine kq fun K hK=>?_)
 (refine Ah ?_;intro X Y hX hY;simp only [go_sem])
 refine ⟨fun h=>hX ?_,fun h=>hY ?_⟩
 rotate_left
 ·have hge:j=L.length:=by simp at h;omega
  clear hX hY X Y
  have hB:((L.take j).all fun o=>!(decide (o.length<L[k].length) && Dp o L[k]))=E4 L L[k]:=by rw [hge,gBn];rfl
  rw [hB]
  rw [Bm hlt] at he
  simp only [Gj] at he
  (refine VZ ?_;repeat clear hK K)
  (refine ai ?_;(repeat clear hK K);repeat refine kq fun K hK=>?_)
  (refine Ah ?_;intro X Y hX hY;simp only [go_sem])
  refine ⟨fun h=>hX ?_,fun h=>hY ?_⟩
  rotate_left
  ·clear hX hY X Y
   rw [if_neg (by rw [h];simp)] at he
   (refine ai ?_;(repeat clear hK K);repeat refine kq fun K hK=>?_)
   refine W4 ?_
   refine hK _ (k+1,acc) ⟨by simp only;omega,by simp only;omega,hsub,he⟩ (by simp only;omega) ?_
   exact W5
  clear hX hY X Y
  rw [h,if_pos rfl] at he
  (refine aj (an @Ae (AR (gE1 hlt))) ?_;repeat refine kq fun K hK=>?_)
  refine Yt (NI acc L[k] (by omega) (gBv hbk (by omega)) (fun y hy=>gBv (hb y (hsub y hy)) (by omega))) ?_
  (refine ai ?_;(repeat clear hK K);repeat refine kq fun K hK=>?_)
  refine W4 ?_
  have:=JU L[k] acc
  refine hK _ (k+1,Gi L[k] acc) ⟨by simp only;omega,by simp only;omega,fun s hs=>?_,he⟩ (by simp only;omega) ?_
  rotate_left
  ·exact W5
  rcases (GW _ _ _).1 hs with rfl | hs
  ·exact gE6 hlt
  exact hsub s hs
 have hlj:j<L.length:=by simpa using h
 have ht:=ht hlj
 clear hX hY X Y h
 generalize hB:((L.take j).all fun o=>!(decide (o.length<L[k].length) && Dp o L[k]))=B at *
 have hbj:=hb _ (gE6 hlj)
 (refine ai ?_;(repeat clear hK K);repeat refine kq fun K hK=>?_)
 refine Yr 22 [(0,0),(1,0),(2,0),(3,0),(4,0),(5,1),(6,0),(7,0),(8,0),(9,0),(10,1),(11,0),(12,0),(13,0),(14,0),(15,0),(16,0),(17,1),(18,0),(19,0),(20,0),(21,1),(22,2),(23,0),(24,0),(25,0),(26,0)] ?_
 cases B with
 | false=>
  (refine VQ (an @Ae @A2) ?_;repeat clear hK K)
  (refine ai ?_;(repeat clear hK K);repeat refine kq fun K hK=>?_)
  refine W4 ?_
  refine hK _ (j+1) (by omega) (by omega) ?_
  simp only [ht]
  exact W5
 | true=>
  by_cases hl:L[j].length<L[k].length
  rotate_left
  ·have hl1:decide ((L[j].length:Int)<(L[k].length:Int))=false:=by simpa using hl
   (refine VQ (an @Ae (an @A2 (an (AR (gE1 hlt)) (an (AR (gE1 hlj)) (an @hl1 @gA8))))) ?_;repeat clear hK K)
   (refine ai ?_;(repeat clear hK K);repeat refine kq fun K hK=>?_)
   refine W4 ?_
   refine hK _ (j+1) (by omega) (by omega) ?_
   simp only [ht,hl,decide_false,Bool.false_and,gA8,gA3]
   exact W5
  have hl1:decide ((L[j].length:Int)<(L[k].length:Int))=true:=by simpa using hl
  (refine VQ (an @Ae (an @A2 (an (AR (gE1 hlt)) (an (AR (gE1 hlj)) @hl1)))) ?_;repeat clear hK K)
  (refine Ue rfl rfl rfl (by simp only [go_sem] <;> rfl) rfl ?_;intro K1 hK1;refine (Av (ids:=[]) (S8 L[j] L[k] (gBv hbj (by omega)) (gBv hbk (by omega))) rfl rfl (by simp only [go_sem]) (by kernel_rfl) (by (simp only [gAk,go_sem]) <;> rfl) ?_).stp)
  rintro _ _ ⟨rfl,rfl⟩
  (refine W1 ?_;clear hK1 K1)
  (refine VP ?_;repeat clear hK K)
  (refine ai ?_;(repeat clear hK K);repeat refine kq fun K hK=>?_)
  refine W4 ?_
  refine hK _ (j+1) (by omega) (by omega) ?_
  simp only [ht,hl,decide_true,gAa]
  exact W5
attribute [local go_sem] lga C.pl C.one
noncomputable def XG (R:List (List Ar)) (m:Int) (X:List Nat):List (List Int):=if m=1 then [] else if m=2 then D2 (Xg R X) else if Xm R X=true then [] else D2 (Xg R X)
noncomputable def XH (R:List (List Ar)) (m:Int) (X:List Nat):Bool:=if m=1 then false else if m=2 then false else Xm R X
set_option maxHeartbeats 4000000 in
theorem Se (R:List (List Ar)) (m:Int) (X:List Nat) (hv:C7 R=true) (hXs:∀ s∈X,s<R.length) (hXn:X.length<=1000) (hn:R.length<=1000000) (hr:∀ r∈R,r.length<=1000000):FC Tryz.prog 56 [Ba R,.a (.c (.t 1 (Ac (X.map Int.ofNat)))),.i m] [] (fun r o=>o=[]/\r=.tup [.c (.t 1 (Az (XG R m X))),.c (.v (.bool (XH R m X)))]):=by
 refine A7 Tryz.func56 rfl (by rw [Tryz.ntmps56];simp) ?_
 rw [Tryz.ntmps56]
 simp only [B4,Ba]
 have hlo:BZ R=true:=gEg (gE4 hv).1
 have hbd:=(gE4 hlo).2.2.2
 have hev:∀ r∈R,∀ a∈r,0<=a.1/\a.1<=1025:=fun r hr a ha=>by have:=hbd r hr a ha;omega
 (refine ai ?_;repeat refine kq fun K hK=>?_)
 (refine W0 (Pe R hv hn hr) ?_;intro K1 hK1)
 rintro _ _ ⟨B,hB,rfl,rfl⟩
 (refine W1 ?_;clear hK1 K1)
 (refine ai ?_;(repeat clear hK K);repeat refine kq fun K hK=>?_)
 refine As (BJ 8 37 1 ?_) ?_
 ·simp only [go_sem]
 simp only [gAm,gBc]
 refine Ab (fun i:Nat=>{ tm:=[(1,.a (.c (.t 1 (Ac (X.map Int.ofNat))))),(2,.i m),(3,.a (.c (.p 0 0))),(8,.a (.c (.s 1 (Xg R (X.take i)).length))),(9,.b ((X.take i).any fun s=>B.getD s false)),(10,.a (.c (.t 1 (Ws B)))),(11,.i i)],hp:=[.r ⟨27,1,false,[.t 1 (AK R)]⟩,.r ⟨37,1,true,Au (Xg R (X.take i))⟩],n:=58,pin:=0 }) (fun i=>i<=X.length) (fun i=>X.length - i) 0 ?_ ?_ ?_
 ·omega
 ·have hc0:Au []=[]:=rfl
  simp only [gBq,Xg,List.filterMap_nil,hc0,List.any_nil,gAO]
  exact W5
 rintro i hi K hK
 by_cases hlt:i<X.length
 rotate_left
 ·have d1:=Yq hlt
  have hke:X.take i=X:=gE7 (by omega)
  have hdx:(X.any fun s=>B.getD s false)=Xm R X:=Ql hB hXs
  have hno:=Ip hev hXs
  have hNl:=Ei R X
  have hmn:=Sd (Xg R X) (by omega) fun y hy=>by
   have h5:=hno y hy
   have:=E7 h5.1 h5.2
   omega
  rw [hke,hdx]
  obtain ⟨D,hD⟩:∃ D,Xg R X=D:=⟨_,rfl⟩
  rw [hD] at hmn ⊢
  have htkD:(Az D).take D.length=Az D:=gE7 (by rw [Ae];exact gBu _)
  simp only [AC] at hmn
  (refine aj (an @d1 (an @A2 @gAN.{0,0})) ?_;repeat refine kq fun K hK=>?_)
  refine W3 ?_
  (refine VZ ?_;repeat clear hK K)
  (refine As (B6 (r:=⟨37,1,true,Au D⟩) 1 (Az D) rfl (D0 D) (show 0<(1:Nat) by omega)) ?_;simp only [ST.frz,A0.frz,AV.frz,C.frz,gBu,gBj,gBi,go_sem,Ae,htkD])
  by_cases hm1:m=1
  ·have e1:(m == 1)=true:=by simpa using hm1
   (refine aj @e1 ?_;repeat refine kq fun K hK=>?_)
   refine W2 ?_
   (refine ai ?_;(repeat clear hK K);repeat refine kq fun K hK=>?_)
   refine As (Dj 6 1 ?_) ?_
   ·simp only [go_sem]
   refine W6 [] Tryz.results56 ?_
   rw [XG,XH,if_pos hm1,if_pos hm1];rfl
  have e1:(m == 1)=false:=by simpa using hm1
  (refine aj @e1 ?_;(repeat clear hK K);repeat refine kq fun K hK=>?_)
  refine W3 ?_
  by_cases hm2:m=2
  ·have e2:(m == 2)=true:=by simpa using hm2
   (refine aj @e2 ?_;repeat refine kq fun K hK=>?_)
   refine W2 ?_
   (refine ai ?_;repeat refine kq fun K hK=>?_)
   refine Yt hmn ?_
   (refine ai ?_;(repeat clear hK K);repeat refine kq fun K hK=>?_)
   refine W6 [] Tryz.results56 ?_
   rw [XG,XH,if_neg hm1,if_neg hm1,if_pos hm2,if_pos hm2,hD]
  have e2:(m == 2)=false:=by simpa using hm2
  (refine aj @e2 ?_;(repeat clear hK K);repeat refine kq fun K hK=>?_)
  refine W3 ?_
  cases hdv:Xm R X with
  | true=>
   (refine ai ?_;repeat refine kq fun K hK=>?_)
   refine W2 ?_
   (refine ai ?_;(repeat clear hK K);repeat refine kq fun K hK=>?_)
   refine As (Dj 6 1 ?_) ?_
   ·simp only [go_sem]
   refine W6 [] Tryz.results56 ?_
   rw [XG,XH,if_neg hm1,if_neg hm1,if_neg hm2,if_neg hm2,if_pos hdv,hdv];rfl
  | false=>
   (refine ai ?_;repeat refine kq fun K hK=>?_)
   refine W3 ?_
   (refine ai ?_;repeat refine kq fun K hK=>?_)
   refine Yt hmn ?_
   (refine ai ?_;(repeat clear hK K);repeat refine kq fun K hK=>?_)
   refine W6 [] Tryz.results56 ?_
   rw [XG,XH,if_neg hm1,if_neg hm1,if_neg hm2,if_neg hm2,hdv,if_neg (by decide),hD]
 have d1:=Yp hlt
 have gX:(Ac (X.map Int.ofNat))[i]?=some (.v (.int .i64 (X[i]:Nat))):=Al (by rw [gAC,gE1 hlt];rfl)
 have hul:=hXs _ (gE6 hlt)
 have hTk:X.take (i+1)=X.take i++[X[i]]:=gE8 hlt
 have hsn:=KO R (X.take i) X[i]
 have han:(X.take (i+1)).any (fun s=>B.getD s false)=((X.take i).any (fun s=>B.getD s false) || B.getD X[i] false):=by rw [hTk,List.any_append];simp
 rw [<- hTk] at hsn
 have hnl:=Ei R (X.take i)
 rw [gAS] at hnl
 generalize Xg R (X.take i)=Q at *
 generalize (X.take i).any (fun s=>B.getD s false)=dv at *
 generalize X[i]=u at *
 have hRu:R.getD u []=R[u]:=by rw [gE2,gE1 hul];rfl
 have hacc:=LE R u hv hul hn hr
 rw [hRu] at hsn
 generalize Gd R[u]=ac at *
 obtain ⟨a,ok⟩:=ac
 have hBu:u<B.length:=by rw [hB.1];exact hul
 have gB:=J5 (gE1 hBu)
 have hBg:B.getD u false=B[u]:=by rw [gE2,gE1 hBu];rfl
 rw [hBg] at han
 have hcl:(Au Q).length=Q.length:=by simp [Au]
 have htkD:(Au Q).take Q.length++[C.t 1 (Ac a)]=Au (Q++[a]):=by
  rw [gE7 (by simp [Au])];simp [Au]
 (refine aj (an @d1 (an @A2 @gAN.{0,0})) ?_;(repeat clear hK K);repeat refine kq fun K hK=>?_)
 refine W2 ?_
 cases dv
 all_goals
  (refine aj (an @gX (an @A2 (an @gAN.{0,0} (an @DE @gB)))) ?_;repeat refine kq fun K hK=>?_)
  refine Yr 5 [(0,1),(1,0),(2,0),(3,0),(4,1),(5,2),(6,0),(7,0),(8,0),(9,0),(10,0)] ?_
  (refine VS (an @gX (an @A2 @gAN.{0,0})) ?_;repeat clear hK K)
  (refine Qa hacc ?_;intro K1 hK1)
  rintro _ _ ⟨rfl,rfl⟩
  (refine W1 ?_;clear hK1 K1)
  (refine VR ?_;repeat clear hK K)
  (refine ai ?_;(repeat clear hK K);repeat refine kq fun K hK=>?_)
  cases ok with
  | true=>
   rw [if_pos rfl] at hsn
   refine W2 ?_
   (refine aj (an @hcl @htkD) ?_;(repeat clear hK K);repeat refine kq fun K hK=>?_)
   refine W4 ?_
   refine hK _ (i+1) (by omega) (by omega) ?_
   rw [hsn,han]
   simp only [gAI,gAJ,gAO,Bool.true_or,gA6]
   refine Le.trans (A8 [0,3] rfl rfl) ?_
   simp only [go_sem,BD]
   exact W5
  | false=>
   rw [if_neg (by simp),gAk] at hsn
   refine W3 ?_
   (refine ai ?_;(repeat clear hK K);repeat refine kq fun K hK=>?_)
   refine W4 ?_
   refine hK _ (i+1) (by omega) (by omega) ?_
   rw [hsn,han]
   simp only [Bool.true_or,gA6]
   exact W5
theorem TN {R:List (List Ar)} {m:Int} (hm:Fy m=true) (X:List Nat) (S:List (List Nat)):Xn R m X S=if XH R m X=true then (([],XG R m X,true),S) else (((Xl R X (Xf R X) S).1,XG R m X,false),(Xl R X (Xf R X) S).2):=by
 have h3:m=1\/m=2\/m=3:=by
  simp only [Fy,Bool.or_eq_true,beq_iff_eq,or_assoc] at hm
  exact hm
 unfold Xn XH XG
 rcases h3 with rfl | rfl | rfl
 ·simp
 ·simp
 cases h:Xm R X <;> simp
set_option maxHeartbeats 8000000 in
theorem NJ (R:List (List Ar)) (m:Int) (hn:R.length<=7) (hr:∀ r∈R,r.length<=10000):FC Tryz.prog 26 [Ba R,.i m] [] (fun r o=>o=[]/\UK R m r):=by
 refine A7 Tryz.func26 rfl (by rw [Tryz.ntmps26];simp) ?_
 rw [Tryz.ntmps26]
 simp only [B4,Ba]
 have hr6:∀ r∈R,r.length<=1000000:=fun r h=>by have:=hr r h;omega
 (refine VV ?_;(repeat clear hK K);unhygienic intros)
 refine Yt (Db R (by omega) (fun r h=>by have:=hr r h;omega)) ?_
 cases hv:C7 R with
 | false=>
  (refine VW @gA8 ?_;unhygienic intros)
  refine W2 ?_
  (refine VV ?_;(repeat clear hK K);unhygienic intros)
  refine W6 [] Tryz.results26 ?_
  exact .inr ⟨by simp [hv],rfl⟩
 | true=>
  (refine VW @gA9 ?_;(repeat clear hK K);unhygienic intros)
  (refine AY rfl rfl (by simp only [go_sem] <;> rfl) ?_;intro K1 hK1;refine (Av (ids:=[]) (NC m) rfl rfl (by simp only [go_sem]) (by kernel_rfl) (by (simp only [gAk,go_sem]) <;> rfl) ?_).stp)
  rintro _ _ ⟨rfl,rfl⟩
  (refine W1 ?_;clear hK1 K1)
  cases hm:Fy m with
  | false=>
   (refine VW @gA8 ?_;unhygienic intros)
   refine W2 ?_
   (refine VV ?_;(repeat clear hK K);unhygienic intros)
   refine W6 [] Tryz.results26 ?_
   exact .inr ⟨by simp [hm],rfl⟩
  | true=>
   have hlo:BZ R=true:=gEg (gE4 hv).1
   have hbd:=(gE4 hlo).2.2.2
   have hev:∀ r∈R,∀ a∈r,0<=a.1/\a.1<=1025:=fun r hr a ha=>by have:=hbd r hr a ha;omega
   have hR1:1<=R.length:=(gE4 hlo).1
   have hF0:∀ v∈[0],v<R.length:=fun v hv=>by rw [gBb.1 hv];exact hR1
   (refine VW @gA9 ?_;unhygienic intros)
   refine W3 ?_
   (refine VV ?_;unhygienic intros)
   (refine Bw (B6 (r:=⟨3,1,true,A9 [(0:Int)]⟩) 1 (Ac [(0:Int)]) rfl (ES _) (show 0<(1:Nat) by omega)) ?_;simp only [ST.frz,A0.frz,AV.frz,C.frz,gBu,gBj,gBi,go_sem,Yw,A2,gAJ,gAO])
   (refine VV ?_;(repeat clear hK K);unhygienic intros)
   (refine W0 (Id R [0] hv hF0 (by decide) (by omega) hr6) ?_;intro K1 hK1)
   rintro _ _ ⟨B0,hB0,rfl,rfl⟩
   (refine W1 ?_;clear hK1 K1)
   have hL0:rL R.length B0=(WL R 0).map Int.ofNat:=by
    show (DV R.length (Bx B0)).map Int.ofNat=_
    rw [ND fun u hu=>hB0.2 u]
   rw [hL0]
   have hpz:B8 R m 0=([WL R 0],[]):=rfl
   have hPz:=PrI.zero R m
   (refine VV ?_;(repeat clear hK K);unhygienic intros)
   refine As (BJ 8 35 3 ?_) ?_
   ·simp only [go_sem]
   refine As (A8 [0,2,3] rfl rfl) ?_
   simp only [go_sem]
   refine Ab (fun x:Nat × Int=>{ tm:=[(1,.i m),(2,.a (.c (.p 0 0))),(7,.a (.c (.s 1 (B8 R m x.1).1.length))),(8,.a (.c (.s 2 x.1))),(9,.i x.2),(10,.i x.1)],hp:=[.r ⟨27,1,false,[.t 1 (AK R)]⟩,.r ⟨37,1,true,Au (Xu (B8 R m x.1).1)⟩,.r ⟨35,3,true,cN (B8 R m x.1).2⟩],n:=118,pin:=0 }) (fun x=>PrI R x.1 (B8 R m x.1)/\0<=x.2/\x.2<=1026*(x.1:Int)) (fun x=>128 - x.1) (0,0) ?_ ?_ ?_
   ·exact ⟨hPz,by decide,by decide⟩
   ·have hcN:cN []=[]:=rfl
    have hc1:Au (Xu [WL R 0])=[.t 1 (Ac ((WL R 0).map Int.ofNat))]:=rfl
    simp only [hpz,hcN,hc1,gAJ,gAO]
    exact W5
   rintro ⟨k,ar⟩ ⟨hP,ha0,ha1⟩ K hK
   simp only at hP ha0 ha1 hK ⊢
   have hTl:=hP.st.len
   have hT7:(B8 R m k).1.length<=128:=gBv hTl (Nat.pow_le_pow_right (by omega) hn)
   by_cases hlt:k<(B8 R m k).1.length
   rotate_left
   ·have hend:(B8 R m k).1.length=k:=by have:=hP.le;omega
    have hPn:=hP.n
    have hpe:PreE R m (B8 R m k):=⟨k,rfl,hend,hP⟩
    generalize B8 R m k=p at *
    obtain ⟨T,N⟩:=p
    simp only at hend hPn hT7 ⊢
    have d1:decide ((k:Int)<(T.length:Int))=false:=gBK (by omega)
    have htkN:(tN N).take (k*3)=tN N:=by rw [<- hPn];exact Nn N
    have htkT:(Az (Xu T)).take T.length=Az (Xu T):=gE7 (by rw [Ae,CQ];exact gBu _)
    (refine VW @d1 ?_;unhygienic intros)
    refine W3 ?_
    (refine VZ ?_;repeat clear hK K)
    (refine As (B6 (r:=⟨35,3,true,cN N⟩) 2 (tN N) rfl (Pu N) (show 0<(3:Nat) by omega)) ?_;simp only [ST.frz,A0.frz,AV.frz,C.frz,gBu,gBj,gBi,go_sem,Bz,hPn,htkN])
    (refine As (B6 (r:=⟨37,1,true,Au (Xu T)⟩) 1 (Az (Xu T)) rfl (D0 _) (show 0<(1:Nat) by omega)) ?_;simp only [ST.frz,A0.frz,AV.frz,C.frz,gBu,gBj,gBi,go_sem,Ae,CQ,htkT])
    (refine VV ?_;(repeat clear hK K);unhygienic intros)
    refine W6 [] Tryz.results26 ?_
    exact .inl ⟨hm,hv,(T,N),hpe,rfl⟩
   have hst:=hP.step hlt
   have hg:=gE1 hlt
   have hps:=C0 hg
   have hcl:=hP.st.cl _ (gE6 hlt)
   have hPst:=hP.st
   have hPn:=hP.n
   have har:=Ho hPst hev m hcl
   rw [TN hm] at hps har
   have hlab:=Se R m (B8 R m k).1[k] hv hcl.lt (by have:=hcl.len;omega) (by omega) hr6
   have hvis:=Sc R (B8 R m k).1[k] hv hcl.lt (by have:=hcl.len;omega) (by omega) hr6
   have hLb:=NB hev hcl.lt
   have hL0:∀ e∈Xf R (B8 R m k).1[k],0<e/\e<=1025:=fun e he=>by
    obtain ⟨s,hs,a,ha,h0,rfl⟩:=Dm.1 he
    rw [gE2,gE1 (hcl.lt s hs),gBF] at ha
    have:=hev _ (gE6 (hcl.lt s hs)) a ha
    omega
   have hYl:(XG R m (B8 R m k).1[k]).length<=7:=by
    have h5:=Ei R (B8 R m k).1[k]
    have h6:=Es (Xg R (B8 R m k).1[k])
    have h7:=hcl.len
    unfold XG
    split
    ·simp
    split
    ·omega
    split
    ·simp
    omega
   generalize Xf R (B8 R m k).1[k]=L at *
   generalize XG R m (B8 R m k).1[k]=Y at *
   generalize XH R m (B8 R m k).1[k]=dv at *
   generalize (B8 R m k).1[k]=X at *
   obtain ⟨S,hS⟩:∃ S,S=(B8 R m k).1:=⟨_,rfl⟩
   obtain ⟨N,hN⟩:∃ N,N=(B8 R m k).2:=⟨_,rfl⟩
   rw [<- hS] at hps har hg hT7 hlt hPst ⊢
   rw [<- hN] at hPn hps ⊢
   have d1:=Yp hlt
   have d4:decide ((S.length:Int) > 4096)=false:=gBK (by omega)
   have d6:decide ((Y.length:Int) > 1024)=false:=gBK (by omega)
   have gC0:∀ T:List (List Nat),T[k]?=some X->(Au (Xu T))[k]?=some (.t 1 (Ac (X.map Int.ofNat))):=fun T h=>by simp [Au,Xu,h]
   have gC:=gC0 S hg
   have hcS:∀ T:List (List Nat),(Au (Xu T)).length=T.length:=fun T=>by simp [Au,Xu]
   simp only [Ba] at hlab hvis
   have hKo:=hK
   (refine VW @d1 ?_;unhygienic intros)
   refine W2 ?_
   (refine VV ?_;unhygienic intros)
   refine Yr 6 [(0,1),(1,0),(2,0),(3,0),(4,1),(5,0),(6,2),(7,0),(8,0),(9,0),(10,0),(11,0)] ?_
   (refine VS (an @gC @hcS) ?_;repeat clear hK K)
   (refine Qa hlab ?_;intro K1 hK1)
   rintro _ _ ⟨rfl,rfl⟩
   (refine W1 ?_;clear hK1 K1)
   (refine VR ?_;repeat clear hK K)
   (refine VW (an @d4 (an @d6 @Ae)) ?_;unhygienic intros)
   refine W3 ?_
   (refine SU ?_;unhygienic intros)
   refine Yr 5 [(0,1),(1,0),(2,0),(3,0),(4,1),(5,2),(6,0)] ?_
   (refine VS (an @gC @hcS) ?_;repeat clear hK K)
   (refine Qa hvis ?_;intro K1 hK1)
   rintro _ _ ⟨rfl,rfl⟩
   (refine W1 ?_;clear hK1 K1)
   (refine VR ?_;repeat clear hK K)
   (refine VV ?_;(repeat clear hK K);unhygienic intros)
   refine As (I6 23 2) ?_
   simp only [gAm,gBc]
   refine As (FU 3 0 4 (by decide) rfl rfl rfl) ?_
   simp only [gBj,gBi]
   refine Ab (fun j:Nat=>{ tm:=[(1,.i m),(2,.a (.c (.p 0 0))),(7,.a (.c (.s 1 (Xl R X (L.take j) S).2.length))),(8,.a (.c (.s 2 k))),(9,.i ar),(10,.i k),(12,.b dv),(13,.a (.c (.p 3 0))),(14,.a (.c (.t 1 (Ac L)))),(15,.i j)],hp:=[.r ⟨27,1,false,[.t 1 (AK R)]⟩,.r ⟨37,1,true,Au (Xu (Xl R X (L.take j) S).2)⟩,.r ⟨35,3,true,cN N⟩,.r ⟨35,3,false,[.s 4 (Xl R X (L.take j) S).1.length,.t 1 (Az Y),.v (.bool dv)]⟩,.r ⟨23,2,true,AG (Xl R X (L.take j) S).1⟩],n:=118,pin:=0 }) (fun j=>j<=L.length/\(dv=true->j=0)) (fun j=>L.length - j) 0 ?_ ?_ ?_
   ·exact ⟨by omega,fun _=>rfl⟩
   ·have hca:AG ([]:List Ar)=[]:=rfl
    simp only [gBq,Xl,gAx,gAO,hca]
    exact W5
   rintro j ⟨hj,hj0⟩ K hK
   have hai:=ArI.all hPst X (L.take j)
   by_cases hc:j<L.length/\dv=false
   rotate_left
   ·have hend:(dv=true/\j=0)\/(dv=false/\L.take j=L):=by
     cases dv with
     | true=>exact .inl ⟨rfl,hj0 rfl⟩
     | false=>exact .inr ⟨rfl,gE7 (by by_cases h:j<L.length;exact absurd ⟨h,rfl⟩ hc;omega)⟩
    have hz:B8 R m (k+1)=((Xl R X (L.take j) S).2,N++[((Xl R X (L.take j) S).1,Y,dv)])/\(Xl R X (L.take j) S).1.length<=1026:=by
     rcases hend with ⟨rfl,rfl⟩ | ⟨rfl,h5⟩
     ·rw [if_pos rfl] at hps har
      exact ⟨hps,har⟩
     rw [if_neg (by decide)] at hps har
     rw [h5]
     exact ⟨hps,har⟩
    clear hps har
    generalize Xl R X (L.take j) S=p at *
    obtain ⟨A,T⟩:=p
    simp only at hz hai ⊢
    obtain ⟨hps,har⟩:=hz
    have d5:decide (ar+(A.length:Int) > 262144)=false:=gBK (by omega)
    have htkN:(cN N).take (k*3)++[.t 2 (Aw A),.t 1 (Az Y),.v (.bool dv)]=cN (N++[(A,Y,dv)]):=by
     rw [<- hPn,gE7 (by rw [Im];exact gBu _)]
     exact Jh N (A,Y,dv)
    have hgo:(decide ((j:Int)<(L.length:Int))=false/\1+1=2)\/(decide ((j:Int)<(L.length:Int))=true/\dv=true):=by
     by_cases h:j<L.length
     rotate_left
     ·exact .inl ⟨by simpa using h,rfl⟩
     refine .inr ⟨by simpa using h,?_⟩
     cases dv with
     | true=>rfl
     | false=>exact absurd ⟨h,rfl⟩ hc
    clear hend hj0 hc
    rcases hgo with ⟨d2,dq⟩ | ⟨d2,rfl⟩
    all_goals
     (refine VW (an @d2 (an @A2 @gA9)) ?_;unhygienic intros)
     refine W3 ?_
     (refine VZ ?_;repeat clear hK K)
     refine As (AQ (r:=⟨23,2,true,AG A⟩) (ri:=⟨35,3,false,[.s 4 A.length,.t 1 (Az Y),.v (.bool _)]⟩) (ts:=Aw A) 3 0 4 A.length (by decide) rfl rfl rfl rfl (show 0<2 by omega) (by rw [AD]) (DB _)) ?_
     simp only [go_sem]
     refine As (CI 3 rfl) ?_
     simp only [Vp,gAV,gAX,go_sem]
     (refine VW (an @A3 (an @Aq @d5)) ?_;unhygienic intros)
     refine W3 ?_
     (refine VW (an @Im (an @Cw @hPn)) ?_;(repeat clear hK K);unhygienic intros)
     refine W4 ?_
     refine hKo _ (k+1,ar+A.length) ⟨hst,by simp only;omega,by simp only;omega⟩ (by simp only;omega) ?_
     simp only [hps,htkN]
     refine Le.trans (A8 [0,1,6] rfl rfl) ?_
     simp only [go_sem,BD,G5]
     exact W5
   obtain ⟨hjl,hdv⟩:=hc
   subst hdv
   have d2:decide ((j:Int)<(L.length:Int))=true:=by simpa using hjl
   have hgL:=gE1 hjl
   have gL:=Al hgL
   have hTk:L.take (j+1)=L.take j++[L[j]]:=gE8 hjl
   have hnx:=KE R X (L.take j) S L[j]
   rw [<- hTk] at hnx
   have hel:(L.take j).length=j:=by rw [gAS];omega
   have he0:=hL0 _ (gE6 hjl)
   generalize L[j]=e at *
   generalize Xl R X (L.take j) S=p at *
   obtain ⟨A,T⟩:=p
   simp only [LV] at hai hnx ⊢
   have hAl:A.length=j:=by rw [<- hel,<- hai.ev,gAN]
   have hTl2:=hai.st.len
   have hT72:T.length<=128:=gBv hTl2 (Nat.pow_le_pow_right (by omega) hn)
   have hTX:T[k]?=some X:=by rw [hai.pre k hlt,hg]
   have hkT:k<T.length:=(List.getElem?_eq_some_iff.1 hTX).1
   have gT:=gC0 T hTX
   have hcT:=hcS T
   have hcx:=ClS.aft (R:=R) X e
   have hxl:=hcx.len
   have haft:=Sa R X e hv hcl he0.1 he0.2 (by omega) hr6
   have hpl:=NF T (EP R X e) (fun y hy=>by have:=(hai.st.cl y hy).len;omega) (by omega) (by omega)
   generalize EP R X e=x at *
   simp only [Ba,Ap] at haft
   have htkA:(AG A).take (A.length*2)=AG A:=gE7 (by rw [AD];exact gBu _)
   (refine VW (an @d2 (an @A2 @gA8)) ?_;unhygienic intros)
   refine W2 ?_
   (refine VV ?_;unhygienic intros)
   refine Yr 9 [(0,1),(1,0),(2,0),(3,0),(4,1),(5,0),(6,0),(7,0),(8,1),(9,2),(10,0)] ?_
   (refine VS (an @gT (an @hcT (an @gL @A2))) ?_;repeat clear hK K)
   (refine Qa haft ?_;intro K1 hK1)
   rintro _ _ ⟨rfl,rfl⟩
   (refine W1 ?_;clear hK1 K1)
   (refine VR ?_;repeat clear hK K)
   (refine VV ?_;(repeat clear hK K);unhygienic intros)
   (refine Aj rfl ?_;intro K1 hK1;refine Ax (ids:=[]) [1] (hpl) rfl rfl (by simp only [go_sem]) (by first | assumption | kernel_rfl) rfl rfl (by (simp only [gAT,gAk,go_sem]) <;> rfl) (by (simp only [Vk,BD,go_sem]) <;> rfl) ?_ ?_)
   ·rintro _ _ ⟨rfl,rfl⟩;rfl
   rintro _ _ ⟨rfl,rfl⟩
   (simp only [Ap,AC,Ft,Ys,go_sem];refine hK1 _ ?_;clear hK1 K1)
   by_cases hx:x∈T
   ·have hpv:XF T x=(Xi T x:Int):=by unfold XF Xi;rw [if_pos hx]
    have hnd:Xk T x=T:=if_pos hx
    have d3:decide (((Xi T x:Nat):Int)<0)=false:=gBK (by omega)
    rw [hpv]
    rw [hnd] at hnx
    (refine VW @d3 ?_;unhygienic intros)
    refine W3 ?_
    (refine VV ?_;unhygienic intros)
    refine YH [] (.m 0 0 0 (.m 1 1 9 (.m 2 0 0 (.m 3 0 0 (.m 4 0 0 (.m 5 1 8 (.m 6 0 0 (.m 7 0 0 (.a 8 (.a 9 (.m 10 0 0 (.a 11 .e)))))))))))) ?_
    (refine VY (an @gL @A2) ?_;repeat clear hK K)
    (refine VL rfl rfl ?_;intro K1 hK1;refine Bl rfl ?_;simp only [go_sem];(first | refine hK1 _ ?_ | refine AE (hK1 _ ?_));clear hK1 K1)
    (refine E3 rfl rfl rfl ?_;intro K1 hK1;refine Cl rfl rfl rfl rfl (by first | rfl | simp only [Ct,gAz,gAy,hne,gAH,gA8,gAa,gA3,gA2]) rfl ?_;simp only [go_sem,Cm,AD,Aq,htkA,B9];(first | refine hK1 _ ?_ | refine AE (hK1 _ ?_));clear hK1 K1)
    (refine VX ?_;repeat clear hK K)
    (refine VM rfl rfl rfl rfl ?_;intro K1 hK1;refine Bc rfl ?_;simp only [go_sem,ST.put,De,A0.cells];(first | refine hK1 _ ?_ | refine AE (hK1 _ ?_));clear hK1 K1)
    (refine VX ?_;repeat clear hK K)
    (refine VV ?_;(repeat clear hK K);unhygienic intros)
    refine W4 ?_
    refine hK _ (j+1) ⟨by omega,fun h=>absurd h (by decide)⟩ (by omega) ?_
    simp only [hnx,htkA,B9,gAI,gAJ,gAO]
    refine Le.trans (A8 [0,1,2,3,6] rfl rfl) ?_
    simp only [go_sem,BD,G5,Dd]
    exact W5
   have hpv:XF T x = -1:=by unfold XF;rw [if_neg hx]
   have hnd:Xk T x=T++[x]:=if_neg hx
   have hnn:Xi T x=T.length:=Qm hx
   have d3:decide ((-1:Int)<0)=true:=by decide
   have htkS:(Au (Xu T)).take T.length++[C.t 1 (Ac (x.map Int.ofNat))]=Au (Xu (T++[x])):=by
    rw [gE7 (by rw [hcT];exact gBu _)];simp [Au,Xu]
   rw [hpv]
   rw [hnd,hnn] at hnx
   (refine VW @d3 ?_;unhygienic intros)
   refine W2 ?_
   (refine VW (an @hcT @htkS) ?_;unhygienic intros)
   refine YH [] (.m 0 0 0 (.m 1 1 9 (.m 2 0 0 (.m 3 0 0 (.m 4 0 0 (.m 5 1 8 (.m 6 0 0 (.m 7 0 0 (.a 8 (.a 9 (.m 10 0 0 (.a 11 .e)))))))))))) ?_
   (refine VY (an @gL @A2) ?_;repeat clear hK K)
   (refine VL rfl rfl ?_;intro K1 hK1;refine Bl rfl ?_;simp only [go_sem];(first | refine hK1 _ ?_ | refine AE (hK1 _ ?_));clear hK1 K1)
   (refine E3 rfl rfl rfl ?_;intro K1 hK1;refine Cl rfl rfl rfl rfl (by first | rfl | simp only [Ct,gAz,gAy,hne,gAH,gA8,gAa,gA3,gA2]) rfl ?_;simp only [go_sem,Cm,AD,Aq,htkA,B9];(first | refine hK1 _ ?_ | refine AE (hK1 _ ?_));clear hK1 K1)
   (refine VX ?_;repeat clear hK K)
   (refine VM rfl rfl rfl rfl ?_;intro K1 hK1;refine Bc rfl ?_;simp only [go_sem,ST.put,De,A0.cells];(first | refine hK1 _ ?_ | refine AE (hK1 _ ?_));clear hK1 K1)
   (refine VX ?_;repeat clear hK K)
   (refine VV ?_;(repeat clear hK K);unhygienic intros)
   refine W4 ?_
   refine hK _ (j+1) ⟨by omega,fun h=>absurd h (by decide)⟩ (by omega) ?_
   simp only [hnx,htkA,B9,gAI,gAJ,gAO]
   refine Le.trans (A8 [0,6,2,3,8] rfl rfl) ?_
   simp only [go_sem,BD,G5,Dd]
   exact W5
theorem NK (x y:Operand) (a:Ar):Gf Tryz.prog .neq 23 x y [.int .i64 a.1,.int .i64 a.2] [.int .i64 a.1,.int .i64 a.2] false=True:=by
 have h:=Rp x y a a
 rw [gEg (rfl:a=a)] at h
 exact h
theorem LI (r:List Ar) (hn:r.length<=1000000):FC Tryz.prog 61 [.a (.c (.t 2 (Aw r))),.a (.c (.t 2 (Aw r)))] [] (fun x o=>o=[]/\x=.b true):=by
 refine A7 Tryz.func61 rfl (by rw [Tryz.ntmps61];simp) ?_
 rw [Tryz.ntmps61]
 simp only [B4]
 have d0:((r.length:Int) != (r.length:Int))=false:=by simp
 (refine aj (an @A3 (an @Aq @d0)) ?_;repeat refine kq fun K hK=>?_)
 refine W3 ?_
 (refine ai ?_;(repeat clear hK K);repeat refine kq fun K hK=>?_)
 refine Ab (fun k:Nat=>{ tm:=[(0,.a (.c (.t 2 (Aw r)))),(1,.a (.c (.t 2 (Aw r)))),(5,.i k)],hp:=[],n:=26,pin:=0 }) (fun k=>k<=r.length) (fun k=>r.length - k) 0 ?_ ?_ ?_
 ·omega
 ·exact W5
 rintro k hk K hK
 by_cases hlt:k<r.length
 rotate_left
 ·have d1:=Yq hlt
  (refine aj (an @d1 (an @A3 @Aq)) ?_;repeat refine kq fun K hK=>?_)
  refine W3 ?_
  (refine VZ ?_;repeat clear hK K)
  (refine ai ?_;(repeat clear hK K);repeat refine kq fun K hK=>?_)
  exact OP [] Tryz.results61
 have d1:=Yp hlt
 have hat:=AS hlt
 have d2:(!decide (r[k]=r[k]))=false:=by simp
 (refine aj (an @d1 (an @A3 @Aq)) ?_;repeat refine kq fun K hK=>?_)
 refine W2 ?_
 (refine ai ?_;(repeat clear hK K);repeat refine kq fun K hK=>?_)
 refine Yr 8 [(0,0),(1,0),(2,0),(3,1),(4,0),(5,0),(6,0),(7,1),(8,2)] ?_
 (repeat (first | ((first | refine QP rfl rfl rfl ?_ | refine QQ rfl rfl rfl ?_);intro K1 hK1;simp only [go_sem,hat,A3,Aq,NK,FP,decide_true,gA9,beq_self_eq_true,gA2,true_and];(first | refine hK1 _ ?_ | refine AE (hK1 _ ?_));clear hK1 K1) | (refine QR rfl rfl rfl rfl ?_;intro K1 hK1;simp only [go_sem,hat,A3,Aq,NK,FP,decide_true,gA9,beq_self_eq_true,gA2,true_and];(first | refine hK1 _ ?_ | refine AE (hK1 _ ?_));clear hK1 K1) | (refine IR ?_;refine hK _ ?_;clear hK K)))
 refine W3 ?_
 (refine ai ?_;(repeat clear hK K);repeat refine kq fun K hK=>?_)
 refine W4 ?_
 refine hK _ (k+1) (by omega) (by omega) ?_
 exact W5
theorem YI {P:Program} {o:Oper} {st:ST} {K:ST->Prop} {t yt:TypeId} {x y:Operand} {a b:Bool} (hu:P.underlying t=some .bool) (hd:Vc o st.n=true) (ho:o.op=.binOp .eql t x y yt) (hx:st.ev x=.b a) (hy:st.ev y=.b b)
  (h:K (st.put o.dst (.b (a == b)))):Stp P o st K:=by
 refine GR (v:=.b (a == b)) hd (fun g w ρ hr hR=>?_) h
 have e1:=hR x
 have e2:=hR y
 rw [hx] at e1
 rw [hy] at e2
 have e1:ρ x=.bool a:=e1
 have e2:ρ y=.bool b:=e2
 refine ⟨.bool (a == b),?_,rfl⟩
 obtain ⟨dst,op,ty,pos,af,gd⟩:=o
 simp only at ho
 subst ho
 simp only [execOp,e1,e2]
 simp [eqGuard,binOp,QT hu]
theorem Sf {P:Program} {o:Oper} {st:ST} {K:ST->Prop} {t yt:TypeId} {x y:Operand} {a b:Bool} (hu:P.underlying t=some .bool) (hd:Vc o st.n=true) (ho:o.op=.binOp .neq t x y yt) (hx:st.ev x=.b a) (hy:st.ev y=.b b)
  (h:K (st.put o.dst (.b (!(a == b))))):Stp P o st K:=by
 refine GR (v:=.b (!(a == b))) hd (fun g w ρ hr hR=>?_) h
 have e1:=hR x
 have e2:=hR y
 rw [hx] at e1
 rw [hy] at e2
 have e1:ρ x=.bool a:=e1
 have e2:ρ y=.bool b:=e2
 refine ⟨.bool (!(a == b)),?_,rfl⟩
 obtain ⟨dst,op,ty,pos,af,gd⟩:=o
 simp only at ho
 subst ho
 simp only [execOp,e1,e2]
 simp [eqGuard,binOp,QT hu]
theorem NM {L:List Xh} {i:Nat} (h:i<L.length) {j:Nat} (hj:j<3):(tN L)[i*3+j]?=(Xo L[i])[j]?:=by
 rw [<- LF h,gAF,if_pos hj,gAA]
theorem Ut {L:List Xh} {i:Nat} (h:i<L.length):(tN L)[i*3]?=some (.l 2 (Aw L[i].1)):=NM h (j:=0) (by decide)
theorem Uu {L:List Xh} {i:Nat} (h:i<L.length):(tN L)[i*3+1]?=some (.l 1 (Az L[i].2.1)):=NM h (j:=1) (by decide)
theorem Uv {L:List Xh} {i:Nat} (h:i<L.length):(tN L)[i*3+2]?=some (.v (.bool L[i].2.2)):=NM h (j:=2) (by decide)
def XI (N:List Xh):Prop:=N.length<=100000/\∀ x∈N,x.1.length<=100000/\x.2.1.length<=100000/\∀ s∈x.2.1,s.length<=100000
def aN (N:List Xh):AV:=.a (.c (.t 3 (tN N)))
set_option maxHeartbeats 4000000 in
theorem NN (N:List Xh) (hN:XI N):FC Tryz.prog 30 [aN N,aN N] [] (fun r o=>o=[]/\r=.b true):=by
 refine A7 Tryz.func30 rfl (by rw [Tryz.ntmps30];simp) ?_
 rw [Tryz.ntmps30]
 simp only [B4,aN]
 have d0:((N.length:Int) != (N.length:Int))=false:=bne_self_eq_false _
 have hNl:=hN.1
 (refine aj (an @Bz (an @Cw @d0)) ?_;repeat refine kq fun K hK=>?_)
 refine W3 ?_
 (refine ai ?_;(repeat clear hK K);repeat refine kq fun K hK=>?_)
 refine Ab (fun k:Nat=>{ tm:=[(0,.a (.c (.t 3 (tN N)))),(1,.a (.c (.t 3 (tN N)))),(5,.i k)],hp:=[],n:=56,pin:=0 }) (fun k=>k<=N.length) (fun k=>N.length - k) 0 ?_ ?_ ?_
 ·omega
 ·exact W5
 rintro k hk K hK
 by_cases hlt:k<N.length
 rotate_left
 ·have d1:=Yq hlt
  (refine aj (an @Bz (an @Cw @d1)) ?_;repeat refine kq fun K hK=>?_)
  refine W3 ?_
  (refine VZ ?_;repeat clear hK K)
  (refine ai ?_;(repeat clear hK K);repeat refine kq fun K hK=>?_)
  exact OP [] Tryz.results30
 have d1:=Yp hlt
 have c0:=Ut hlt
 have c1:=Uu hlt
 have c2:=Uv hlt
 have hb:=hN.2 _ (gE6 hlt)
 generalize N[k]=x at *
 obtain ⟨A,Y,dv⟩:=x
 simp only at c0 c1 c2 hb
 have hrow:=LI A (by omega)
 have hset:FC Tryz.prog 12 [AC Y,AC Y] [] (fun r o=>o=[]/\r=.b true):=(KQ Y Y (by omega) (by omega) (fun s h=>by have:=hb.2.2 s h;omega) (fun s h=>by have:=hb.2.2 s h;omega)).mono fun _ _ h=>⟨h.1,by rw [h.2];simp⟩
 simp only [AC] at hset
 (refine aj (an @Bz (an @Cw @d1)) ?_;repeat refine kq fun K hK=>?_)
 refine W2 ?_
 (refine ai ?_;repeat refine kq fun K hK=>?_)
 refine Yz [] [(0,0,0),(1,0,0),(2,0,0),(3,0,0),(5,0,0),(6,0,0),(7,0,0),(8,0,0),(4,1,10),(9,1,10),(10,2,0),(11,0,0),(12,0,0),(13,0,0),(14,0,0),(15,0,0),(17,0,0),(18,0,0),(19,0,0),(20,0,0),(16,1,22),(21,1,22),(22,2,0),(23,0,0),(24,0,0),(25,0,0),(26,0,0),(27,0,0),(28,0,0),(29,0,0),(31,0,0),(32,0,0),(33,0,0),(34,0,0),(30,1,36),(35,1,36),(36,2,0),(37,0,0),(38,2,0)] ?_
 (refine VU (an @Bz (an @Cw (an @c0 (an @c1 @c2)))) ?_;repeat clear hK K)
 (refine VI rfl rfl rfl ?_;intro K1 hK1;refine Sf (a:=dv) (b:=dv) Tryz.underlying4 rfl rfl (by simp only [go_sem]) (by simp only [go_sem]) ?_;simp only [go_sem,bne_self_eq_false];refine hK1 _ ?_;clear hK1 K1)
 (refine VU (an @Bz (an @Cw (an @c0 (an @c1 @c2)))) ?_;repeat clear hK K)
 (refine Mr rfl rfl rfl (by simp only [go_sem] <;> rfl) ?_;intro K1 hK1;refine Bv ?_;refine xv [] (hrow) ?_ ?_)
 ·rintro _ _ ⟨rfl,rfl⟩ i o hi hl;simp at hl
 rintro _ _ ⟨rfl,rfl⟩
 (refine W1 ?_;clear hK1 K1)
 (refine VU (an @Bz (an @Cw (an @c0 (an @c1 (an @c2 @gA9))))) ?_;repeat clear hK K)
 (refine Mr rfl rfl rfl (by simp only [go_sem] <;> rfl) ?_;intro K1 hK1;refine Bv ?_;refine xv [] (hset) ?_ ?_)
 ·rintro _ _ ⟨rfl,rfl⟩ i o hi hl;simp at hl
 rintro _ _ ⟨rfl,rfl⟩
 (refine W1 ?_;clear hK1 K1)
 (refine VU @gA9 ?_;repeat clear hK K)
 (refine VI rfl rfl rfl ?_;intro K1 hK1;refine Bc rfl ?_;simp only [go_sem];(first | refine hK1 _ ?_ | refine AE (hK1 _ ?_));clear hK1 K1)
 (refine VT ?_;repeat clear hK K)
 refine W3 ?_
 (refine ai ?_;(repeat clear hK K);repeat refine kq fun K hK=>?_)
 refine W4 ?_
 refine hK _ (k+1) (by omega) (by omega) ?_
 exact W5
theorem Sg:FC Tryz.prog 30 [.a (.c (.v (.slice none 0 0))),.a (.c (.v (.slice none 0 0)))] [] (fun r o=>o=[]/\r=.b true):=by
 refine A7 Tryz.func30 rfl (by rw [Tryz.ntmps30];simp) ?_
 rw [Tryz.ntmps30]
 simp only [B4]
 have d0:(((0:Nat):Int) != ((0:Nat):Int))=false:=by simp
 (refine aj @d0 ?_;repeat refine kq fun K hK=>?_)
 refine W3 ?_
 (refine ai ?_;(repeat clear hK K);repeat refine kq fun K hK=>?_)
 refine Ab (fun k:Nat=>{ tm:=[(0,.a (.c (.v (.slice none 0 0)))),(1,.a (.c (.v (.slice none 0 0)))),(5,.i k)],hp:=[],n:=56,pin:=0 }) (fun k=>k<=0) (fun k=>0 - k) 0 ?_ ?_ ?_
 ·omega
 ·exact W5
 rintro k hk K hK
 have hk0:k=0:=by omega
 subst hk0
 (refine ai ?_;repeat refine kq fun K hK=>?_)
 (refine Ah ?_;intro X Y hX hY;simp only [go_sem])
 refine ⟨fun h=>absurd h (by simp),fun _=>hY ?_⟩
 clear hX hY X Y
 (refine VZ ?_;repeat clear hK K)
 (refine ai ?_;(repeat clear hK K);repeat refine kq fun K hK=>?_)
 exact OP [] Tryz.results30
def XK (A:List Ar):List Int:=A.map (·.1)
theorem BS (A:List Ar):(XK A).length=A.length:=gAN _
theorem PH {A:List Ar} {k:Nat} (h:k<A.length):XK (A.take (k+1))=XK (A.take k)++[A[k].1]:=by
 unfold XK
 rw [gE8 h,gAT];rfl
set_option maxHeartbeats 1000000 in
theorem Qr (A:List Ar) (hA:A.length<=1000000):FC Tryz.prog 122 [.a (.c (.t 2 (Aw A)))] [] (fun r o=>o=[]/\r=Ap (XK A)):=by
 refine A7 Tryz.func122 rfl (by rw [Tryz.ntmps122];simp) ?_
 rw [Tryz.ntmps122]
 simp only [B4]
 (refine aj (an @A3 @Aq) ?_;(repeat clear hK K);repeat refine kq fun K hK=>?_)
 refine As (BJ 3 3 1 ?_) ?_
 ·simp only [go_sem]
 simp only [gBc,gAO]
 refine Ab (fun k:Nat=>{ tm:=[(3,.a (.c (.s 0 k))),(6,.a (.c (.t 2 (Aw A)))),(7,.i A.length),(8,.i k)],hp:=[.r ⟨3,1,true,A9 (XK (A.take k))⟩],n:=19,pin:=0 }) (fun k=>k<=A.length) (fun k=>A.length - k) 0 ?_ ?_ ?_
 ·omega
 ·have hc0:A9 (XK [])=[]:=rfl
  simp only [gBq,hc0]
  exact W5
 rintro k hk K hK
 by_cases hlt:k<A.length
 ·have d1:=Yp hlt
  have hat:=AS hlt
  have hnx:=PH hlt
  have hel:(XK (A.take k)).length=k:=by rw [BS,gAS];omega
  generalize XK (A.take k)=Q at *
  generalize A[k]=a at *
  obtain ⟨e,t⟩:=a
  simp only at hat hnx
  have ca:=UJ Q e (n:=k) hel
  (refine aj @d1 ?_;repeat refine kq fun K hK=>?_)
  refine W2 ?_
  (refine Zk (an @hat (an @A3 @Aq)) ?_;repeat refine kq fun K hK=>?_)
  (refine aj (an @A4 (an @hel @ca)) ?_;(repeat clear hK K);repeat refine kq fun K hK=>?_)
  refine W4 ?_
  refine hK _ (k+1) (by omega) (by omega) ?_
  rw [hnx]
  refine Le.trans (A8 [3] rfl rfl) ?_
  simp only [go_sem,A5]
  exact W5
 have d1:=Yq hlt
 have hke:A.take k=A:=gE7 (by omega)
 have hkl:k=A.length:=by omega
 rw [hke]
 subst hkl
 have hfo:(Ac (XK A)).take A.length=Ac (XK A):=gE7 (by rw [A2,BS];exact gBu _)
 (refine aj @d1 ?_;repeat refine kq fun K hK=>?_)
 refine W3 ?_
 (refine VZ ?_;repeat clear hK K)
 (refine As (B6 (r:=⟨3,1,true,A9 (XK A)⟩) 0 (Ac (XK A)) rfl (ES _) (show 0<(1:Nat) by omega)) ?_;simp only [ST.frz,A0.frz,AV.frz,C.frz,gBu,gBj,gBi,go_sem,A2,BS,hfo])
 (refine ai ?_;(repeat clear hK K);repeat refine kq fun K hK=>?_)
 ((try refine Ak ?_);(try simp only [Ad,Ay]);refine AB (A8 [] rfl rfl) ?_;(try simp only [Yn,go_sem]);((try refine Ak ?_);(try refine Aa ?_);(try simp only [Ad,Ay]);refine AN (by first | exact .inl rfl | exact .inr rfl) rfl ?_;simp only [Vm,Cq,Ck,Cx,Tryz.results122,go_sem,true_and,and_true,Ap]))
set_option maxHeartbeats 1000000 in
theorem YV (A:List Ar) (hA:A.length<=1000000):FC Tryz.prog 86 [.a (.c (.t 2 (Aw A)))] [] (fun r o=>o=[]/\r=Ap (XK A)):=by
 refine A7 Tryz.func86 rfl (by rw [Tryz.ntmps86];simp) ?_
 rw [Tryz.ntmps86]
 simp only [B4]
 (refine ai ?_;(repeat clear hK K);repeat refine kq fun K hK=>?_)
 refine As (BJ 3 3 1 ?_) ?_
 ·simp only [go_sem]
 simp only [gBc,gAO]
 refine Ab (fun k:Nat=>{ tm:=[(0,.a (.c (.t 2 (Aw A)))),(3,.a (.c (.s 0 k))),(4,.i k)],hp:=[.r ⟨3,1,true,A9 (XK (A.take k))⟩],n:=20,pin:=0 }) (fun k=>k<=A.length) (fun k=>A.length - k) 0 ?_ ?_ ?_
 ·omega
 ·have hc0:A9 (XK [])=[]:=rfl
  simp only [gBq,hc0]
  exact W5
 rintro k hk K hK
 by_cases hlt:k<A.length
 ·have d1:=Yp hlt
  have hat:=DQ hlt
  have hnx:=PH hlt
  have hel:(XK (A.take k)).length=k:=by rw [BS,gAS];omega
  generalize XK (A.take k)=Q at *
  generalize A[k]=a at *
  obtain ⟨e,t⟩:=a
  simp only at hat hnx
  have ca:=UJ Q e (n:=k) hel
  (refine aj (an @d1 (an @A3 @Aq)) ?_;repeat refine kq fun K hK=>?_)
  refine W2 ?_
  (refine aj (an @hat (an @A3 (an @Aq (an @A4 (an @hel @ca))))) ?_;(repeat clear hK K);repeat refine kq fun K hK=>?_)
  refine W4 ?_
  refine hK _ (k+1) (by omega) (by omega) ?_
  rw [hnx]
  refine Le.trans (A8 [2] rfl rfl) ?_
  simp only [go_sem,A5]
  exact W5
 have d1:=Yq hlt
 have hke:A.take k=A:=gE7 (by omega)
 have hkl:k=A.length:=by omega
 rw [hke]
 subst hkl
 have hfo:(Ac (XK A)).take A.length=Ac (XK A):=gE7 (by rw [A2,BS];exact gBu _)
 (refine aj (an @d1 (an @A3 @Aq)) ?_;repeat refine kq fun K hK=>?_)
 refine W3 ?_
 (refine VZ ?_;repeat clear hK K)
 (refine As (B6 (r:=⟨3,1,true,A9 (XK A)⟩) 0 (Ac (XK A)) rfl (ES _) (show 0<(1:Nat) by omega)) ?_;simp only [ST.frz,A0.frz,AV.frz,C.frz,gBu,gBj,gBi,go_sem,A2,BS,hfo])
 (refine ai ?_;(repeat clear hK K);repeat refine kq fun K hK=>?_)
 ((try refine Ak ?_);(try simp only [Ad,Ay]);refine AB (A8 [] rfl rfl) ?_;(try simp only [Yn,go_sem]);((try refine Ak ?_);(try refine Aa ?_);(try simp only [Ad,Ay]);refine AN (by first | exact .inl rfl | exact .inr rfl) rfl ?_;simp only [Vm,Cq,Ck,Cx,Tryz.results86,go_sem,true_and,and_true,Ap]))
def LW (n:Int):Int->List Ar->Bool
 | _,[]=>true
 | l,a :: r=>if a.1<=l\/a.1 > 1025\/a.2<0\/a.2>=n then false else LW n a.1 r
set_option maxHeartbeats 4000000 in
theorem LJ (A:List Ar) (n:Int) (hA:A.length<=1000000):FC Tryz.prog 43 [.a (.c (.t 2 (Aw A))),.i n] [] (fun r o=>o=[]/\r=.b (LW n 0 A)):=by
 refine A7 Tryz.func43 rfl (by rw [Tryz.ntmps43];simp) ?_
 rw [Tryz.ntmps43]
 simp only [B4]
 (refine VW (an @A3 @Aq) ?_;(repeat clear hK K);unhygienic intros)
 refine Ab (fun x:Nat × Int=>{ tm:=[(1,.i n),(5,.i x.2),(8,.a (.c (.t 2 (Aw A)))),(9,.i A.length),(10,.i x.1)],hp:=[],n:=37,pin:=0 }) (fun x=>x.1<=A.length/\LW n 0 A=LW n x.2 (A.drop x.1)) (fun x=>A.length - x.1) (0,0) ?_ ?_ ?_
 ·exact ⟨by omega,rfl⟩
 ·exact W5
 rintro ⟨k,l⟩ ⟨hk,hs⟩ K hK
 simp only at hk hs hK ⊢
 by_cases hlt:k<A.length
 rotate_left
 ·have d1:=Yq hlt
  rw [gAq (by omega)] at hs
  (refine VW @d1 ?_;unhygienic intros)
  refine W3 ?_
  (refine VZ ?_;repeat clear hK K)
  (refine VV ?_;(repeat clear hK K);unhygienic intros)
  refine W6 [] Tryz.results43 ?_
  rw [hs];rfl
 have d1:=Yp hlt
 have hat:=AS hlt
 rw [gAp hlt] at hs
 generalize A[k]=a at *
 obtain ⟨e,t⟩:=a
 simp only [LW] at hat hs
 (refine VW @d1 ?_;(repeat clear hK K);unhygienic intros)
 refine W2 ?_
 by_cases hbad:e<=l\/e > 1025\/t<0\/t>=n
 rotate_left
 ·rw [if_neg hbad] at hs
  have b1:decide (e<=l)=false:=gBK (by omega)
  have b2:decide (e > 1025)=false:=gBK (by omega)
  have b3:decide (t<0)=false:=gBK (by omega)
  have b4:decide (t>=n)=false:=gBK (by omega)
  (refine Cu (an @hat (an @A3 (an @Aq (an @b1 (an @b2 (an @b3 @b4)))))) ?_;unhygienic intros)
  refine W3 ?_
  (refine VV ?_;(repeat clear hK K);unhygienic intros)
  refine W4 ?_
  refine hK _ (k+1,e) ⟨by simp only;omega,hs⟩ (by simp only;omega) ?_
  refine Le.trans (A8 [] rfl rfl) ?_
  simp only [go_sem]
  exact W5
 rw [if_pos hbad] at hs
 have hc:(decide (e<=l)=true/\1+1=2/\1+1=2/\1+1=2)\/(decide (e<=l)=false/\decide (e > 1025)=true/\1+1=2/\1+1=2)\/(decide (e<=l)=false/\decide (e > 1025)=false/\decide (t<0)=true/\1+1=2)\/(decide (e<=l)=false/\decide (e > 1025)=false/\decide (t<0)=false/\decide (t>=n)=true):=by
  simp only [decide_eq_true_iff,gBL,and_true]
  omega
 rcases hc with ⟨b1,b2,b3,b4⟩ | ⟨b1,b2,b3,b4⟩ | ⟨b1,b2,b3,b4⟩ | ⟨b1,b2,b3,b4⟩
 all_goals
  (refine Cu (an @hat (an @A3 (an @Aq (an @b1 (an @b2 (an @b3 @b4)))))) ?_;unhygienic intros)
  refine W2 ?_
  (refine VV ?_;(repeat clear hK K);unhygienic intros)
  refine W6 [] Tryz.results43 ?_
  rw [hs]
def XL:Int->List Ar->Option Int
 | f,[]=>some f
 | f,a :: r=>if a.2 > f then none else XL (if a.2+1 > f then a.2+1 else f) r
def XM:Int->Nat->List Xh->Bool
 | _,_,[]=>true
 | f,i,x :: N=>if (i:Int)>=f then false else match XL f x.1 with
  | none=>false
  | some g=>XM g (i+1) N
set_option maxHeartbeats 4000000 in
theorem Sh (N:List Xh) (hN:N.length<=100000) (hA:∀ x∈N,x.1.length<=100000/\∀ a∈x.1,0<=a.2/\a.2<=1000000):FC Tryz.prog 45 [.a (.c (.t 3 (tN N)))] [] (fun r o=>o=[]/\r=.b (XM 1 0 N)):=by
 refine A7 Tryz.func45 rfl (by rw [Tryz.ntmps45];simp) ?_
 rw [Tryz.ntmps45]
 simp only [B4]
 (refine VW (an @Bz @Cw) ?_;(repeat clear hK K);unhygienic intros)
 refine Ab (fun x:Nat × Int=>{ tm:=[(3,.i x.2),(8,.a (.c (.t 3 (tN N)))),(9,.i N.length),(10,.i x.1)],hp:=[],n:=36,pin:=0 }) (fun x=>x.1<=N.length/\1<=x.2/\x.2<=1000001/\XM 1 0 N=XM x.2 x.1 (N.drop x.1)) (fun x=>N.length - x.1) (0,1) ?_ ?_ ?_
 ·exact ⟨by omega,by decide,by decide,rfl⟩
 ·exact W5
 rintro ⟨k,f⟩ ⟨hk,hf1,hf2,hs⟩ K hK
 simp only at hk hf1 hf2 hs hK ⊢
 by_cases hlt:k<N.length
 rotate_left
 ·have d1:=Yq hlt
  rw [gAq (by omega)] at hs
  (refine VW @d1 ?_;unhygienic intros)
  refine W3 ?_
  (refine VZ ?_;repeat clear hK K)
  (refine VV ?_;(repeat clear hK K);unhygienic intros)
  refine W6 [] Tryz.results45 ?_
  rw [hs];rfl
 have d1:=Yp hlt
 have hat:=LF hlt
 have hb:=hA _ (gE6 hlt)
 rw [gAp hlt] at hs
 generalize N[k]=x at *
 obtain ⟨A,Y,dv⟩:=x
 simp only [XM,Xo] at hat hs hb
 have hKo:=hK
 (refine VW @d1 ?_;(repeat clear hK K);unhygienic intros)
 refine W2 ?_
 by_cases hkf:(k:Int)>=f
 ·rw [if_pos hkf] at hs
  have b1:decide ((k:Int)>=f)=true:=gEg hkf
  (refine Cu (an @hat (an @Bz (an @Cw @b1))) ?_;unhygienic intros)
  refine W2 ?_
  (refine VV ?_;(repeat clear hK K);unhygienic intros)
  refine W6 [] Tryz.results45 ?_
  rw [hs]
 rw [if_neg hkf] at hs
 have b1:decide ((k:Int)>=f)=false:=gBK hkf
 (refine Cu (an @hat (an @Bz (an @Cw @b1))) ?_;unhygienic intros)
 refine W3 ?_
 (refine VW (an @A3 @Aq) ?_;(repeat clear hK K);unhygienic intros)
 refine Ab (fun x:Nat × Int=>{ tm:=[(3,.i x.2),(8,.a (.c (.t 3 (tN N)))),(9,.i N.length),(10,.i k),(19,.a (.c (.t 2 (Aw A)))),(20,.i A.length),(21,.i x.1)],hp:=[.r ⟨35,3,false,[.t 2 (Aw A),.t 1 (Az Y),.v (.bool dv)]⟩],n:=36,pin:=0 }) (fun x=>x.1<=A.length/\1<=x.2/\x.2<=1000001/\XL f A=XL x.2 (A.drop x.1)) (fun x=>A.length - x.1) (0,f) ?_ ?_ ?_
 ·exact ⟨by omega,hf1,hf2,rfl⟩
 ·exact W5
 rintro ⟨j,g⟩ ⟨hj,hg1,hg2,hg⟩ K hK
 simp only at hj hg1 hg2 hg hK ⊢
 by_cases hjl:j<A.length
 rotate_left
 ·have d2:decide ((j:Int)<(A.length:Int))=false:=by simpa using hjl
  rw [gAq (by omega)] at hg
  simp only [XL] at hg
  rw [hg] at hs
  simp only at hs
  (refine VW @d2 ?_;unhygienic intros)
  refine W3 ?_
  (refine VZ ?_;repeat clear hK K)
  (refine VV ?_;(repeat clear hK K);unhygienic intros)
  refine W4 ?_
  refine hKo _ (k+1,g) ⟨by simp only;omega,hg1,hg2,hs⟩ (by simp only;omega) ?_
  refine Le.trans (A8 [] rfl rfl) ?_
  simp only [go_sem]
  exact W5
 have d2:decide ((j:Int)<(A.length:Int))=true:=by simpa using hjl
 have haj:=AS hjl
 have hab:=hb.2 _ (gE6 hjl)
 rw [gAp hjl] at hg
 generalize A[j]=a at *
 obtain ⟨e,t⟩:=a
 simp only [XL] at haj hg hab
 (refine VW @d2 ?_;(repeat clear hK K);unhygienic intros)
 refine W2 ?_
 by_cases ht:t > g
 ·rw [if_pos ht] at hg
  have b2:decide (t > g)=true:=gEg ht
  (refine Cu (an @haj (an @A3 (an @Aq @b2))) ?_;unhygienic intros)
  refine W2 ?_
  (refine VV ?_;(repeat clear hK K);unhygienic intros)
  refine W6 [] Tryz.results45 ?_
  rw [hs,hg]
 rw [if_neg ht] at hg
 have b2:decide (t > g)=false:=gBK ht
 (refine Cu (an @haj (an @A3 (an @Aq @b2))) ?_;unhygienic intros)
 refine W3 ?_
 (refine VV ?_;(repeat clear hK K);unhygienic intros)
 refine W4 ?_
 refine hK _ (j+1,if t+1 > g then t+1 else g) ⟨by simp only;omega,by simp only;split <;> omega,by simp only;split <;> omega,hg⟩ (by simp only;omega) ?_
 refine Le.trans (A8 [0] rfl rfl) ?_
 simp only [go_sem]
 exact W5
open Go.RowKit Go.Shelf
theorem Fp.drewN (w:World) (M:Nat->Prop):∀ q,Fp M w (w.drewN q):=fun q=>⟨rfl,rfl,rfl,gBu _,fun _ _ _=>rfl,Nat.le_add_right _ _⟩
theorem TO {xs:List Int} (h:W9 xs):xs.Pairwise (·<=·):=h.imp fun h=>by omega
theorem NQ {g:Gh} {ℓ:Loc}:¬ Lv [] g ℓ:=by
 intro hl
 cases ℓ with
 | ob i=>rcases hl with ⟨r,e1,_⟩ | ⟨kv,e1⟩ <;> simp at e1
 | cl i j=>obtain ⟨r,_,_,e1,_⟩:=hl;simp at e1
theorem Uw {g:Gh} {hp:List Ob} {w:World} {a b:AV} {vals:List Value} (h:HQ g hp w [a,b] vals):∃ u v,vals=[u,v]/\AVR (CR g hp w) a u/\AVR (CR g hp w) b v:=by
 obtain ⟨h1,h2⟩:=h
 match vals,h1 with
 | [u,v],_=>
  obtain ⟨u',e1,r1⟩:=h2 0 a rfl
  obtain ⟨v',e2,r2⟩:=h2 1 b rfl
  simp at e1 e2
  subst e1;subst e2
  exact ⟨u,v,rfl,r1,r2⟩
theorem TP {M:Nat->Prop} {w:World} {xs:List Int} {b off:Nat} {us:Nat->Value} (h1:∀ (j:Nat) (t:Tr),(Ac xs)[j]?=some t->w.cell? ⟨b,off+j,none⟩=some (us j)) (h2:∀ (j:Nat) (t:Tr),(Ac xs)[j]?=some t->Rd M w t (us j)):
  ∀ j x,xs[j]?=some x->w.cell? ⟨b,off+j,none⟩=some (.int .i64 x):=by
 intro j x hx
 have ht:=Al hx
 rw [h1 j _ ht]
 have h3:=h2 j _ ht
 revert h3
 generalize us j=y
 intro h3
 cases h3
 rfl

def XN (xs:List Int) (x:Int):AV:=.tup [.c (.v (.int .i64 (xs.countP (·<x):Nat))),.c (.v (.bool (xs.contains x)))]
theorem Si (xs:List Int) (x:Int) (hn:xs.length<=140737488355328) (hx:W9 xs):FC Tryz.prog 149 [Ap xs,.i x] [] (fun r o=>o=[]/\r=XN xs x):=by
 by_cases h0:xs=[]
 ·subst h0
  refine A7 Tryz.func149 rfl (by rw [Tryz.ntmps149];simp) ?_
  rw [Tryz.ntmps149]
  simp only [B4,Ap]
  (refine aj @A2 ?_;(repeat clear hK K);repeat refine kq fun K hK=>?_)
  refine Ab (fun _:Unit=>{ tm:=[(0,.a (.c (.t 1 (Ac [])))),(1,.i x),(6,.i 0),(7,.i 0),(8,.i 0)],hp:=[],n:=54,pin:=0 }) (fun _=>True) (fun _=>0) () ?_ ?_ ?_
  ·trivial
  ·(refine Bh ?_;simp only [CS,go_sem,Ac,gAX,Int.natCast_zero];try simp)
  rintro _ _ K hK
  (refine ai ?_;repeat refine kq fun K hK=>?_)
  (refine Ah ?_;intro X Y hX hY;simp only [go_sem,Int.lt_irrefl,decide_false])
  refine hY ?_
  clear hX hY X Y
  (refine VZ ?_;repeat clear hK K)
  have hl:decide ((0:Int)<0)=false:=by decide
  (refine aj @hl ?_;(repeat clear hK K);repeat refine kq fun K hK=>?_)
  refine W8 Tryz.results149 ?_
  rfl
 intro g w vals hr ha
 obtain ⟨u,v,rfl,hu,hv⟩:=Uw ha
 cases (show v=_ from hv)
 have hu:Rd (Ow [] g) w (.l 1 (Ac xs)) u:=hu
 generalize ht:Ac xs=ts at hu
 cases hu with
 | e A c=>exact absurd (by have:=congrArg List.length ht;rw [A2] at this;exact gAt this) h0
 | l _ _ b off n cp us hl hn0 hc hM hb h1 h2=>
  subst ht
  have hnl:xs.length=n:=by rw [A2] at hl;omega
  subst hnl
  have hcell:=TP h1 h2
  have:=Any.slices_BinarySearch_int Tryz.binS b off xs.length cp xs x w (gBu _) (by omega) (fun j hj=>by
   rw [hcell j _ (gE1 hj)]
   simp [List.getD,hj]) (by rw [gBn];exact TO hx)
  refine (show Calls Tryz.prog 149 _ w _ from this).mono ?_
  rintro e w' ⟨rfl,q,rfl⟩
  rw [gBn]
  refine ⟨_,XN xs x,[],g,rfl,⟨rfl,rfl⟩,⟨fun b hb=>hr.ml b hb,fun ℓ hl=>absurd hl NQ,fun ℓ _ hl=>absurd hl NQ,fun id r e=>by simp at e,fun id kv e=>by simp at e,hr.gl.keep (gBu _) (fun _ _ _=>rfl) (fun _ _ h=>h)⟩,⟨gBu _,Ext.refl _ _⟩,fun ℓ hl=>absurd hl NQ,⟨_,rfl,rfl,fun i y hy=>?_⟩,Fp.drewN _ _ _⟩
  match i,hy with
  | 0,hy=>obtain rfl:=Option.some.inj hy;exact ⟨_,rfl,rfl⟩
  | 1,hy=>obtain rfl:=Option.some.inj hy;exact ⟨_,rfl,rfl⟩
  | i+2,hy=>simp at hy

theorem PI {xs:List Int} {k:Nat} (h:k<xs.length) (hA:W9 (xs.take k)) (hl:k=0\/∃ y,xs[k - 1]?=some y/\y<xs[k]):W9 (xs.take (k+1)):=by
 rw [gE8 h]
 refine gBd.2 ⟨hA,List.pairwise_singleton _ _,fun y hy z hz=>?_⟩
 rw [gBb.1 hz]
 obtain ⟨j,hj⟩:=gB6.1 hy
 have hjk:j<k:=by
  have:=(List.getElem?_eq_some_iff.1 hj).1
  rw [gAS] at this;omega
 rcases hl with rfl | ⟨w,hw,hwl⟩
 ·omega
 have hjx:xs[j]?=some y:=by rw [gAF,if_pos hjk] at hj;exact hj
 by_cases e:j=k - 1
 ·subst e
  rw [hjx] at hw
  cases hw
  exact hwl
 have hP:=gBf.1 hA j (k - 1) (by rw [gAS];omega) (by rw [gAS];omega) (by omega)
 simp only [List.getElem_take] at hP
 have e1:=(List.getElem?_eq_some_iff.1 hjx).2
 have e2:=(List.getElem?_eq_some_iff.1 hw).2
 omega
noncomputable def XO (xs all:List Int):Bool:=@decide (W9 xs/\∀ x∈xs,x∈all) (Classical.propDecidable _)
theorem G7 {xs all:List Int}:XO xs all=true↔W9 xs/\∀ x∈xs,x∈all:=@decide_eq_true_iff _ (Classical.propDecidable _)
set_option maxHeartbeats 4000000 in
theorem LK (xs all:List Int) (hx:xs.length<=1000000) (ha:all.length<=1000000) (hA:W9 all):FC Tryz.prog 123 [Ap xs,Ap all] [] (fun r o=>o=[]/\r=.b (XO xs all)):=by
 refine A7 Tryz.func123 rfl (by rw [Tryz.ntmps123];simp) ?_
 rw [Tryz.ntmps123]
 simp only [B4,Ap]
 (refine aj @A2 ?_;(repeat clear hK K);repeat refine kq fun K hK=>?_)
 refine Ab (fun k:Nat=>{ tm:=[(0,.a (.c (.t 1 (Ac xs)))),(1,.a (.c (.t 1 (Ac all)))),(9,.a (.c (.t 1 (Ac xs)))),(10,.i xs.length),(11,.i k)],hp:=[],n:=38,pin:=0 }) (fun k=>k<=xs.length/\W9 (xs.take k)/\∀ x∈xs.take k,x∈all) (fun k=>xs.length - k) 0 ?_ ?_ ?_
 ·exact ⟨by omega,by rw [gBq];exact List.Pairwise.nil,by simp⟩
 ·exact W5
 rintro k ⟨hk,hk1,hk2⟩ K hK
 by_cases hlt:k<xs.length
 rotate_left
 ·have d1:=Yq hlt
  rw [gE7 (by omega)] at hk1 hk2
  (refine aj @d1 ?_;repeat refine kq fun K hK=>?_)
  refine W3 ?_
  (refine VZ ?_;repeat clear hK K)
  (refine ai ?_;(repeat clear hK K);repeat refine kq fun K hK=>?_)
  refine W6 [] Tryz.results123 ?_
  rw [G7.2 ⟨hk1,hk2⟩]
 have d1:=Yp hlt
 have hg:=gE1 hlt
 have gx:=Al hg
 have hbs:=Si all xs[k] (by omega) hA
 have hmem:=gE6 hlt
 have hat:=PI hlt hk1
 have htk:=gE8 hlt
 generalize xs[k]=e at *
 simp only [Ap,XN] at hbs
 (refine aj @d1 ?_;repeat refine kq fun K hK=>?_)
 refine W2 ?_
 (refine aj (an @gx @A2) ?_;(repeat clear hK K);repeat refine kq fun K hK=>?_)
 refine Yt hbs ?_
 cases hc:all.contains e with
 | false=>
  have hno:XO xs all=false:=Bool.eq_false_iff.2 fun h=>by
   have:=(G7.1 h).2 e hmem
   rw [<- List.contains_iff_mem,hc] at this
   cases this
  (refine aj @gA8 ?_;repeat refine kq fun K hK=>?_)
  refine W2 ?_
  (refine ai ?_;(repeat clear hK K);repeat refine kq fun K hK=>?_)
  refine W6 [] Tryz.results123 ?_
  rw [hno]
 | true=>
  have hin:e∈all:=List.contains_iff_mem.1 hc
  have hall:∀ x∈xs.take (k+1),x∈all:=fun x h=>by
   rw [htk] at h
   rcases gB0.1 h with q | q
   ·exact hk2 x q
   rw [gBb.1 q];exact hin
  by_cases h0:k=0
  ·have b0:decide ((k:Int) > 0)=false:=gBK (by omega)
   (refine aj (an @gA9 @b0) ?_;repeat refine kq fun K hK=>?_)
   refine W3 ?_
   (refine ai ?_;(repeat clear hK K);repeat refine kq fun K hK=>?_)
   refine W4 ?_
   refine hK _ (k+1) ⟨by omega,hat (.inl h0),hall⟩ (by omega) ?_
   exact W5
  have b0:decide ((k:Int) > 0)=true:=gEg (by omega)
  have hg1:xs[k - 1]?=some xs[k - 1]:=gE1 (by omega)
  have gx1:=Al hg1
  have hgx:=hg1
  have hq:(k:Int) - 1=((k - 1:Nat):Int):=by omega
  have hql:k - 1<xs.length:=by omega
  have hno0:∀ y,xs[k - 1]?=some y->y>=e->XO xs all=false:=fun y hy hge=>Bool.eq_false_iff.2 fun h=>by
   have:=gBf.1 (G7.1 h).1 (k - 1) k hql hlt (by omega)
   have h2:=(List.getElem?_eq_some_iff.1 hg).2
   have h3:=(List.getElem?_eq_some_iff.1 hy).2
   omega
  obtain ⟨y,hy⟩:∃ y,y=xs[k - 1]:=⟨_,rfl⟩
  rw [<- hy] at gx1 hgx
  by_cases hge:y>=e
  ·have b1:decide (y>=e)=true:=gEg hge
   have hno:=hno0 y hgx hge
   (refine aj (an @gA9 (an @b0 (an @hq (an @gx1 (an @A2 @b1))))) ?_;repeat refine kq fun K hK=>?_)
   refine W2 ?_
   (refine ai ?_;(repeat clear hK K);repeat refine kq fun K hK=>?_)
   refine W6 [] Tryz.results123 ?_
   rw [hno]
  have b1:decide (y>=e)=false:=gBK hge
  have hat2:=hat (.inr ⟨_,hgx,by omega⟩)
  (refine aj (an @gA9 (an @b0 (an @hq (an @gx1 (an @A2 @b1))))) ?_;repeat refine kq fun K hK=>?_)
  refine W3 ?_
  (refine ai ?_;(repeat clear hK K);repeat refine kq fun K hK=>?_)
  refine W4 ?_
  refine hK _ (k+1) ⟨by omega,hat2,hall⟩ (by omega) ?_
  exact W5
set_option maxHeartbeats 2000000 in
theorem TQ (a b:List (List Int)) (ha:a.length<=1000000) (hb:b.length<=1000000) (hax:∀ s∈a,s.length<=1000000) (hbx:∀ s∈b,s.length<=1000000):FC Tryz.prog 65 [.a (.c (.t 1 (Az a))),.a (.c (.t 1 (Az b))),.a (.c (.f 66 []))] [] (fun r o=>o=[]/\r=.b (decide (a=b))):=by
 refine A7 Tryz.func65 rfl (by rw [Tryz.ntmps65];simp) ?_
 rw [Tryz.ntmps65]
 simp only [B4]
 have hcal:B3 Tryz.prog 66=true:=by kernel_rfl
 by_cases hl:a.length=b.length
 rotate_left
 ·have d0:((a.length:Int) != (b.length:Int))=true:=by simp;omega
  have hno:¬ a=b:=fun e=>hl (by rw [e])
  (refine aj (an @Ae @d0) ?_;repeat refine kq fun K hK=>?_)
  refine W2 ?_
  (refine ai ?_;(repeat clear hK K);repeat refine kq fun K hK=>?_)
  refine W6 [] Tryz.results65 ?_
  simp [hno]
 have d0:((a.length:Int) != (b.length:Int))=false:=by simp [hl]
 (refine aj (an @Ae @d0) ?_;repeat refine kq fun K hK=>?_)
 refine W3 ?_
 (refine aj @Ae ?_;(repeat clear hK K);repeat refine kq fun K hK=>?_)
 refine Ab (fun k:Nat=>{ tm:=[(1,.a (.c (.t 1 (Az b)))),(2,.a (.c (.f 66 []))),(15,.a (.c (.t 1 (Az a)))),(16,.i a.length),(17,.i k)],hp:=[],n:=32,pin:=0 }) (fun k=>k<=a.length/\a.take k=b.take k) (fun k=>a.length - k) 0 ?_ ?_ ?_
 ·exact ⟨by omega,rfl⟩
 ·exact W5
 rintro k ⟨hk,htk⟩ K hK
 by_cases hlt:k<a.length
 rotate_left
 ·have d1:=Yq hlt
  have hab:a=b:=by rw [gE7 (by omega),gE7 (by omega)] at htk;exact htk
  (refine aj @d1 ?_;repeat refine kq fun K hK=>?_)
  refine W3 ?_
  (refine VZ ?_;repeat clear hK K)
  (refine ai ?_;(repeat clear hK K);repeat refine kq fun K hK=>?_)
  refine W6 [] Tryz.results65 ?_
  simp [hab]
 have d1:=Yp hlt
 have hlb:k<b.length:=by omega
 have hga:=gE1 hlt
 have hgb:=gE1 hlb
 have ga:=AR hga
 have gb:=AR hgb
 have t1:=gE8 hlt
 have t2:=gE8 hlb
 have heq:=Hb a[k] b[k] (by have:=hax _ (gE6 hlt);omega) (by have:=hbx _ (gE6 hlb);omega)
 generalize a[k]=x at *
 generalize b[k]=y at *
 simp only [Ap] at heq
 (refine aj @d1 ?_;repeat refine kq fun K hK=>?_)
 refine W2 ?_
 (refine aj (an @ga (an @gb @Ae)) ?_;(repeat clear hK K);repeat refine kq fun K hK=>?_)
 refine Yt heq ?_
 by_cases hxy:x=y
 ·have b1:decide (x=y)=true:=gEg hxy
  (refine aj (an @b1 @gA9) ?_;repeat refine kq fun K hK=>?_)
  refine W3 ?_
  (refine ai ?_;(repeat clear hK K);repeat refine kq fun K hK=>?_)
  refine W4 ?_
  refine hK _ (k+1) ⟨by omega,by rw [t1,t2,htk,hxy]⟩ (by omega) ?_
  exact W5
 have b1:decide (x=y)=false:=gBK hxy
 have hno:¬ a=b:=fun e=>by
  subst e
  rw [hga] at hgb
  exact hxy (Option.some.inj hgb)
 (refine aj (an @b1 @gA8) ?_;repeat refine kq fun K hK=>?_)
 refine W2 ?_
 (refine ai ?_;(repeat clear hK K);repeat refine kq fun K hK=>?_)
 refine W6 [] Tryz.results65 ?_
 simp [hno]
end Go.Proofs.YtbnabodoabimnaaGreat
