/- Lemmas. -/
import Derived.Test.YtbnabodoabimnaaGreatZk
import Derived.Test.YtbnabodoabimnaaGreatG67
import Derived.Test.YtbnabodoabimnaaGreatG45
import Derived.Test.YtbnabodoabimnaaGreatTj1
import Derived.Test.YtbnabodoabimnaaGreatMD
import Derived.Shelf.SlSortCmp.Kit1
import Derived.Test.YtbnabodoabimnaaGreatMF
import Derived.Test.YtbnabodoabimnaaGreatShlfS
import Derived.Shelf.Sort.Plain
import Derived.Shelf.Slices.In.SortNone
import Derived.Test.YtbnabodoabimnaaGreatG42
import Derived.Test.YtbnabodoabimnaaGreatG43
namespace Go.Proofs.YtbnabodoabimnaaGreat
set_option linter.unusedVariables false
set_option linter.unusedSimpArgs false
open Go.RowKit
set_option maxRecDepth 100000
attribute [local go_sem] lga C.pl C.one
def rL (n:Nat) (B:List Bool):List Int:=((List.range n).filter (Bx B)).map Int.ofNat
theorem Qf {n:Nat} {B:List Bool} {u:Nat}:(u:Int)∈rL n B↔u<n/\Bx B u=true:=by
 unfold rL
 rw [gB7]
 constructor
 rotate_left
 ·rintro ⟨h1,h2⟩
  exact ⟨u,by simp [h1,h2],rfl⟩
 rintro ⟨v,hv,e⟩
 have:v=u:=by have e2:(v:Int)=(u:Int):=e;omega
 subst this
 simpa using hv
theorem Qg (n:Nat) (B:List Bool):(rL n B).length<=n:=by
 unfold rL
 rw [gAN]
 have:=gAM (Bx B) (List.range n)
 rwa [List.length_range] at this
def Wv (R:List (List Ar)) (F:List Nat) (B:List Bool):Prop:=B.length=R.length/\∀ u,Bx B u=true↔∃ v∈F,Rc (Wi true R) v u
theorem Id (R:List (List Ar)) (F:List Nat) (hv:C7 R=true) (hF:∀ v∈F,v<R.length) (hFl:F.length<=1000000) (hn:R.length<=1000000) (hr:∀ r∈R,r.length<=1000000):FC Tryz.prog 55 [Ba R,.a (.c (.t 1 (Ac (F.map Int.ofNat)))),.b true] [] (fun r o=>∃ B,Wv R F B/\o=[]/\r=.a (.c (.t 1 (Ac (rL R.length B))))):=by
 have h:=(MQ R F true hv hF hFl hn hr).mono (R':=fun r o=>∃ B,Wv R F B/\r=.a (.c (.s 0 (rL R.length B).length))/\o=[.r ⟨3,1,true,A9 (rL R.length B)⟩]) fun r o ⟨B,h1,h2,L,hL,h3,h4⟩=>⟨B,⟨h1,fun u=>by rw [h2 u,MS true hv]⟩,by rw [h4,hL];rfl,by rw [h3,hL];rfl⟩
 exact h.frzP (fun B=>ES _) (by omega) (fun B _=>by rw [A2,gBB])
def Cy (R:List (List Ar)) (s:Nat):Prop:=∃ w,w∈Wi true R s/\Rc (Wi true R) w s
set_option maxHeartbeats 2000000 in
theorem Ts (R:List (List Ar)) (s:Nat) (hv:C7 R=true) (hs:s<R.length) (hn:R.length<=1000000) (hr:∀ r∈R,r.length<=1000000):FC Tryz.prog 125 [Ba R,.i s] [] (fun r o=>∃ b:Bool,(b=true↔Cy R s)/\o=[]/\r=.b b):=by
 refine A7 Tryz.func125 rfl (by rw [Tryz.ntmps125];simp) ?_
 rw [Tryz.ntmps125]
 simp only [B4,Ba]
 have hlo:BZ R=true:=gEg (gE4 hv).1
 have hg:=gE1 hs
 have hrl:=hr _ (gE6 hs)
 have hbs:=(gE4 hlo).2.2.2 _ (gE6 hs)
 have hcy:Cy R s↔∃ a∈R[s],a.1=0/\Rc (Wi true R) a.2.toNat s:=by
  unfold Cy
  rw [<- MS true hv]
  unfold LT H6
  rw [gE2,hg,gBF]
  simp only [gB7,gB4,gA9,gA6,beq_iff_eq]
  constructor
  ·rintro ⟨w,⟨a,⟨h1,h2⟩,rfl⟩,h3⟩
   exact ⟨a,h1,h2,h3⟩
  rintro ⟨a,h1,h2,h3⟩
  exact ⟨_,⟨a,⟨h1,h2⟩,rfl⟩,h3⟩
 generalize R[s]=row at *
 (refine ai ?_;(repeat clear hK K);repeat refine kq fun K hK=>?_)
 refine Ab (fun i:Nat=>{ tm:=[(1,.i s),(2,.a (.c (.p 0 0))),(5,.i i)],hp:=[.r ⟨27,1,false,[.t 1 (AK R)]⟩],n:=37,pin:=0 }) (fun i=>i<=row.length/\∀ a∈row.take i,¬ (a.1=0/\Rc (Wi true R) a.2.toNat s)) (fun i=>row.length - i) 0 ?_ ?_ ?_
 ·exact ⟨by omega,by simp⟩
 ·exact W5
 rintro i ⟨hi,hno⟩ K hK
 by_cases hlt:i<row.length
 rotate_left
 ·have d1:=Yq hlt
  (refine aj (an @d1 (an @A6 (an (Ao hg) (an @A3 @Aq)))) ?_;repeat refine kq fun K hK=>?_)
  refine W3 ?_
  (refine VZ ?_;repeat clear hK K)
  (refine ai ?_;(repeat clear hK K);repeat refine kq fun K hK=>?_)
  refine W6 [] Tryz.results125 ?_
  refine ⟨false,by simp only [gA5,false_iff];intro h;obtain ⟨a,h1,h2⟩:=hcy.1 h;exact hno a (by rw [gE7 (by omega)];exact h1) h2,rfl⟩
 have d1:=Yp hlt
 have hat:=AS hlt
 have hmem:=gE6 hlt
 have hb:=hbs _ hmem
 have hno2:¬ (row[i].1=0/\Rc (Wi true R) row[i].2.toNat s)->∀ a∈row.take (i+1),¬ (a.1=0/\Rc (Wi true R) a.2.toNat s):=fun h a ha=>by
  rw [gE8 hlt] at ha
  rcases gB0.1 ha with h1 | h1
  ·exact hno a h1
  simp at h1;subst h1;exact h
 generalize row[i]=a at *
 obtain ⟨e,t⟩:=a
 simp only at hat hb hno2
 obtain ⟨_,_,ht0,ht1⟩:=hb
 obtain ⟨tn,rfl⟩:∃ tn:Nat,t=(tn:Int):=⟨t.toNat,by omega⟩
 have htn:tn<R.length:=by omega
 rw [gAd] at hno2
 by_cases he:e=0
 rotate_left
 ·have d2:(e == 0)=false:=by simpa using he
  (refine aj (an @d1 (an @A6 (an (Ao hg) (an @A3 @Aq)))) ?_;repeat refine kq fun K hK=>?_)
  refine W2 ?_
  (refine Zk (an @A6 (an (Ao hg) (an @hat (an @A3 (an @Aq @d2))))) ?_;repeat refine kq fun K hK=>?_)
  refine W3 ?_
  (refine ai ?_;(repeat clear hK K);repeat refine kq fun K hK=>?_)
  refine W4 ?_
  refine hK _ (i+1) ⟨by omega,hno2 fun h=>he h.1⟩ (by omega) ?_
  refine Le.trans (A8 [0] rfl rfl) ?_
  (try simp only [Yn,go_sem])
  exact W5
 have d2:(e == 0)=true:=by simpa using he
 (refine aj (an @d1 (an @A6 (an (Ao hg) (an @A3 @Aq)))) ?_;repeat refine kq fun K hK=>?_)
 refine W2 ?_
 (refine Zk (an @A6 (an (Ao hg) (an @hat (an @A3 (an @Aq @d2))))) ?_;repeat refine kq fun K hK=>?_)
 (refine Bw (B6 (r:=⟨3,1,true,A9 [(tn:Int)]⟩) 2 (Ac [(tn:Int)]) rfl (ES _) (show 0<(1:Nat) by omega)) ?_;simp only [ST.frz,A0.frz,AV.frz,C.frz,gBu,gBj,gBi,go_sem,Yw])
 (refine AY rfl rfl (by simp only [go_sem] <;> rfl) ?_;intro K1 hK1;refine (Av (ids:=[]) (Id R [tn] hv (by simpa using htn) (by simp) hn hr) rfl rfl (by simp only [go_sem]) (by kernel_rfl) (by (simp only [gAk,go_sem]) <;> rfl) ?_).stp)
 rintro _ _ ⟨B,hB,rfl,rfl⟩
 (refine W1 ?_;clear hK1 K1)
 (refine ai ?_;(repeat clear hK K);repeat refine kq fun K hK=>?_)
 (refine AY rfl rfl (by simp only [go_sem] <;> rfl) ?_;intro K1 hK1;refine (Av (ids:=[]) (Ha (rL R.length B) s (by have:=Qg R.length B;omega)) rfl rfl (by simp only [go_sem]) (by kernel_rfl) (by (simp only [gAk,go_sem]) <;> rfl) ?_).stp)
 rintro _ _ ⟨rfl,rfl⟩
 (refine W1 ?_;clear hK1 K1)
 have hin:(s:Int)∈rL R.length B↔Rc (Wi true R) tn s:=by rw [Qf,hB.2];simp [hs]
 by_cases hh:Rc (Wi true R) tn s
 ·have d3:decide ((s:Int)∈rL R.length B)=true:=by simpa using hin.2 hh
  (refine aj @d3 ?_;repeat refine kq fun K hK=>?_)
  refine W2 ?_
  (refine ai ?_;(repeat clear hK K);repeat refine kq fun K hK=>?_)
  refine W6 [] Tryz.results125 ?_
  exact ⟨true,by simp only [true_iff];exact hcy.2 ⟨_,hmem,he,by rw [gAd];exact hh⟩,rfl⟩
 have d3:decide ((s:Int)∈rL R.length B)=false:=by simpa using fun h=>hh (hin.1 h)
 (refine aj @d3 ?_;repeat refine kq fun K hK=>?_)
 refine W3 ?_
 (refine ai ?_;(repeat clear hK K);repeat refine kq fun K hK=>?_)
 refine W4 ?_
 refine hK _ (i+1) ⟨by omega,hno2 fun h=>hh h.2⟩ (by omega) ?_
 refine Le.trans (A8 [0] rfl rfl) ?_
 (try simp only [Yn,go_sem])
 exact W5
def CyL (R:List (List Ar)) (k:Nat) (Ls:List Nat):Prop:=Ls.length<=k/\∀ g,g∈Ls↔g<k/\Cy R g
theorem CyL.yes {R:List (List Ar)} {k:Nat} {Ls:List Nat} (h:CyL R k Ls) (hc:Cy R k):CyL R (k+1) (Ls++[k]):=by
 refine ⟨by simp only [gAI,gAR];have:=h.1;omega,fun g=>?_⟩
 rw [gB0,h.2,gBb]
 constructor
 ·rintro (⟨h1,h2⟩ | rfl)
  ·exact ⟨by omega,h2⟩
  exact ⟨by omega,hc⟩
 rintro ⟨h1,h2⟩
 by_cases e:g=k
 ·exact .inr e
 exact .inl ⟨by omega,h2⟩
theorem CyL.no {R:List (List Ar)} {k:Nat} {Ls:List Nat} (h:CyL R k Ls) (hc:¬ Cy R k):CyL R (k+1) Ls:=by
 refine ⟨by have:=h.1;omega,fun g=>?_⟩
 rw [h.2]
 constructor
 ·rintro ⟨h1,h2⟩;exact ⟨by omega,h2⟩
 rintro ⟨h1,h2⟩
 by_cases e:g=k
 ·subst e;exact absurd h2 hc
 exact ⟨by omega,h2⟩
theorem Tt {R:List (List Ar)} (hlo:BZ R=true) {Ls:List Nat} (h:CyL R R.length Ls) {s:Nat} (hs:s<R.length):Dv R s↔∃ g∈Ls,Rc (Wi true R) s g:=by
 constructor
 rotate_left
 ·rintro ⟨g,h1,h2⟩
  exact ⟨g,h2,((h.2 g).1 h1).2⟩
 rintro ⟨g,h1,h2⟩
 exact ⟨g,(h.2 g).2 ⟨h1.lt hs (Dq true hlo),h2⟩,h1⟩
set_option maxHeartbeats 4000000 in
theorem Ry (R:List (List Ar)) (hv:C7 R=true) (hn:R.length<=1000000) (hr:∀ r∈R,r.length<=1000000):FC Tryz.prog 93 [Ba R] [] (fun r o=>∃ B,DvL R B/\r=.a (.c (.s 0 R.length))/\o=[.r ⟨4,1,true,Wm B⟩]):=by
 refine A7 Tryz.func93 rfl (by rw [Tryz.ntmps93];simp) ?_
 rw [Tryz.ntmps93]
 simp only [B4,Ba]
 have hlo:BZ R=true:=gEg (gE4 hv).1
 (refine ai ?_;repeat refine kq fun K hK=>?_)
 refine Yt (Db R (by omega) (fun r h=>by have:=hr r h;omega)) ?_
 (refine aj (an @hv @gA9) ?_;repeat refine kq fun K hK=>?_)
 refine W3 ?_
 (refine ai ?_;(repeat clear hK K);repeat refine kq fun K hK=>?_)
 refine As (BJ 3 3 1 ?_) ?_
 ·simp only [go_sem]
 simp only [gAm,gBc,gAJ,gAO]
 refine Ab (fun x:Nat × List Nat=>{ tm:=[(1,.a (.c (.p 0 0))),(3,.a (.c (.s 1 x.2.length))),(4,.i x.1)],hp:=[.r ⟨27,1,false,[.t 1 (AK R)]⟩,.r ⟨3,1,true,A9 (x.2.map Int.ofNat)⟩],n:=68,pin:=0 }) (fun x=>x.1<=R.length/\CyL R x.1 x.2) (fun x=>R.length - x.1) (0,[]) ?_ ?_ ?_
 ·exact ⟨by simp,by simp,fun g=>by simp⟩
 ·simp only [gAX,gAO,A9]
  exact W5
 rintro ⟨s,Ls⟩ ⟨hs,hLs⟩ K hK
 simp only at hs hLs
 have hll:=hLs.1
 by_cases hlt:s<R.length
 ·have d1:=Yp hlt
  (refine aj (an @A6 @d1) ?_;repeat refine kq fun K hK=>?_)
  refine W2 ?_
  (refine ai ?_;repeat refine kq fun K hK=>?_)
  (refine W0 (Ts R s hv hlt hn hr) ?_;intro K1 hK1)
  rintro _ _ ⟨b,hb,rfl,rfl⟩
  (refine W1 ?_;clear hK1 K1)
  (refine ai ?_;(repeat clear hK K);repeat refine kq fun K hK=>?_)
  cases b with
  | true=>
   refine W2 ?_
   (refine aj (an @gAN.{0,0} (an @gBj.{0} (an @gBi.{0} (an @gBp.{0} (an @gBq.{0} (an @gAs.{0} (an @gAS.{0} (an @gAK.{0} (an @gAI.{0} (an @A2 (an @Bf (an @CC (an @Dz (an @A4 (an @CL (an @BG (an @D8 (an @BF @CB)))))))))))))))))) ?_;(repeat clear hK K);repeat refine kq fun K hK=>?_)
   refine W4 ?_
   refine hK _ (s+1,Ls++[s]) ⟨by simp only;omega,hLs.yes (hb.1 rfl)⟩ (by simp only;omega) ?_
   refine Le.trans (A8 [0,3] rfl rfl) ?_
   (try simp only [Yn,go_sem])
   (try simp only [A5])
   have htk:(Ls.map Int.ofNat).take Ls.length=Ls.map Int.ofNat:=gE7 (by simp)
   simp only [htk,gAT,gAV,gAX,gAI,gAR]
   exact W5
  | false=>
   refine W3 ?_
   (refine ai ?_;(repeat clear hK K);repeat refine kq fun K hK=>?_)
   refine W4 ?_
   refine hK _ (s+1,Ls) ⟨by simp only;omega,hLs.no fun h=>by have:=hb.2 h;cases this⟩ (by simp only;omega) ?_
   exact W5
 have d1:=Yq hlt
 have hse:s=R.length:=by omega
 rw [hse] at hLs
 (refine aj (an @A6 @d1) ?_;repeat refine kq fun K hK=>?_)
 refine W3 ?_
 (refine VZ ?_;repeat clear hK K)
 have htk:(Ac (Ls.map Int.ofNat)).take Ls.length=Ac (Ls.map Int.ofNat):=gE7 (by rw [A2];simp)
 (refine As (B6 (r:=⟨3,1,true,A9 (Ls.map Int.ofNat)⟩) 1 (Ac (Ls.map Int.ofNat)) rfl (ES _) (show 0<(1:Nat) by omega)) ?_;simp only [ST.frz,A0.frz,AV.frz,C.frz,gBu,gBj,gBi,go_sem,htk,A2,gAN])
 (refine aj @A6 ?_;(repeat clear hK K);repeat refine kq fun K hK=>?_)
 refine As (A8 [0,2] rfl rfl) ?_
 (try simp only [Yn,go_sem])
 have e0:List.replicate R.length (C.v (.bool false))=Wm (List.replicate R.length false):=by simp [Wm]
 rw [e0]
 (try simp only [C8])
 refine Ab (fun x:Nat × List Bool=>{ tm:=[(1,.a (.c (.p 0 0))),(3,.a (.c (.t 1 (Ac (Ls.map Int.ofNat))))),(5,.a (.c (.s 1 R.length))),(6,.i x.1)],hp:=[.r ⟨27,1,false,[.t 1 (AK R)]⟩,.r ⟨4,1,true,Wm x.2⟩],n:=68,pin:=0 }) (fun x=>x.1<=R.length/\x.2.length=R.length/\(∀ u,u<x.1->(x.2.getD u false=true↔∃ g∈Ls,Rc (Wi true R) u g))/\∀ u,x.1<=u->x.2.getD u false=false) (fun x=>R.length - x.1) (0,List.replicate R.length false) ?_ ?_ ?_
 ·refine ⟨by simp,by simp,fun u h=>by simp at h,fun u _=>?_⟩
  rw [gE2,gAD];split <;> rfl
 ·exact W5
 clear hs hlt d1 hse hll
 rintro ⟨s,B⟩ ⟨hs,hBl,hB1,hB2⟩ K hK
 simp only at hs hBl hB1 hB2
 have hll:=hLs.1
 by_cases hgo:s<R.length/\0<Ls.length
 rotate_left
 ·have hfin:DvL R B:=by
   refine ⟨hBl,fun u hu=>?_⟩
   rw [Tt hlo hLs hu]
   rcases gBx u s with h | h
   ·exact hB1 u h
   rw [hB2 u h]
   have h0:Ls=[]:=gAL.1 (by omega)
   simp [h0]
  by_cases hlt:s<R.length
  rotate_left
  ·have d1:=Yq hlt
   (refine aj (an @A6 @d1) ?_;repeat refine kq fun K hK=>?_)
   refine W3 ?_
   (refine VZ ?_;repeat clear hK K)
   (refine ai ?_;(repeat clear hK K);repeat refine kq fun K hK=>?_)
   refine W7 [1] Tryz.results93 @C8 ?_
   exact ⟨B,hfin,rfl⟩
  have d1:=Yp hlt
  have d2:decide ((Ls.length:Int) > 0)=false:=gBK (by omega)
  (refine aj (an @A6 (an @d1 (an @A2 (an @gAN.{0,0} @d2)))) ?_;repeat refine kq fun K hK=>?_)
  refine W3 ?_
  (refine VZ ?_;repeat clear hK K)
  (refine ai ?_;(repeat clear hK K);repeat refine kq fun K hK=>?_)
  refine W7 [1] Tryz.results93 @C8 ?_
  exact ⟨B,hfin,rfl⟩
 obtain ⟨hlt,hL0⟩:=hgo
 have d1:=Yp hlt
 have d2:decide ((Ls.length:Int) > 0)=true:=gEg (by omega)
 (refine aj (an @A6 (an @d1 (an @A2 (an @gAN.{0,0} @d2)))) ?_;repeat refine kq fun K hK=>?_)
 refine W2 ?_
 (refine ai ?_;(repeat clear hK K);repeat refine kq fun K hK=>?_)
 (refine Bw (B6 (r:=⟨3,1,true,A9 [(s:Int)]⟩) 2 (Ac [(s:Int)]) rfl (ES _) (show 0<(1:Nat) by omega)) ?_;simp only [ST.frz,A0.frz,AV.frz,C.frz,gBu,gBj,gBi,go_sem,Yw])
 (refine W0 (Id R [s] hv (by simpa using hlt) (by simp) hn hr) ?_;intro K1 hK1)
 rintro _ _ ⟨B0,hB0,rfl,rfl⟩
 (refine W1 ?_;clear hK1 K1)
 have hBk:∀ u:Nat,(u:Int)∈rL R.length B0↔u<R.length/\Rc (Wi true R) s u:=fun u=>by rw [Qf,hB0.2];simp
 have hrl:=Qg R.length B0
 generalize rL R.length B0=L0 at *
 (refine ai ?_;(repeat clear hK K);repeat refine kq fun K hK=>?_)
 refine As (A8 [0,1] rfl rfl) ?_
 (try simp only [Yn,go_sem])
 (try simp only [C8])
 refine Ab (fun x:Nat × Bool=>{ tm:=[(1,.a (.c (.p 0 0))),(3,.a (.c (.t 1 (Ac (Ls.map Int.ofNat))))),(5,.a (.c (.s 1 R.length))),(6,.i s),(7,.a (.c (.t 1 (Ac L0)))),(8,.i x.1)],hp:=[.r ⟨27,1,false,[.t 1 (AK R)]⟩,.r ⟨4,1,true,Wm (B.set s x.2)⟩],n:=68,pin:=0 }) (fun x=>x.1<=Ls.length/\(x.2=true↔∃ g∈Ls.take x.1,Rc (Wi true R) s g)) (fun x=>Ls.length - x.1) (0,false) ?_ ?_ ?_
 ·exact ⟨by simp,by simp⟩
 ·have e1:B.set s false=B:=by
   have h:=hB2 s (gBu _)
   rw [gE2,gE1 (by omega),gBF] at h
   have e:B.set s B[s]=B:=List.set_getElem_self _
   rwa [h] at e
  simp only [e1]
  exact W5
 rintro ⟨i,b⟩ ⟨hi,hb⟩ K hK
 simp only at hi hb
 by_cases hli:i<Ls.length
 rotate_left
 ·have d3:decide ((i:Int)<(Ls.length:Int))=false:=by simpa using hli
  rw [gE7 (by omega)] at hb
  (refine aj (an @A2 (an @gAN.{0,0} @d3)) ?_;repeat refine kq fun K hK=>?_)
  refine W3 ?_
  (refine VZ ?_;repeat clear hK K)
  (refine ai ?_;(repeat clear hK K);repeat refine kq fun K hK=>?_)
  refine W4 ?_
  refine hK _ (s+1,B.set s b) ⟨by simp only;omega,by simp [hBl],fun u hu=>?_,fun u hu=>?_⟩ (by simp only;omega) ?_
  rotate_left
  ·simp only at hu ⊢
   rw [gE2,gE5 (by omega),<- gE2]
   exact hB2 u (by omega)
  ·exact W5
  simp only at hu ⊢
  rw [gE2]
  by_cases e:s=u
  rotate_left
  ·rw [gE5 e,<- gE2]
   exact hB1 u (by omega)
  subst e
  rw [gEc (by omega),gBF]
  exact hb
 have d3:decide ((i:Int)<(Ls.length:Int))=true:=by simpa using hli
 have gl:(Ac (Ls.map Int.ofNat))[i]?=some (.v (.int .i64 ((Ls[i]:Nat):Int))):=Al (by rw [gAC,gE1 hli];rfl)
 have gb:(Wm (B.set s b))[s]?=some (.v (.bool b)):=J0 (gEc (by omega))
 have hgm:=((hLs.2 Ls[i]).1 (gE6 hli)).1
 have hstep:(b || decide ((Ls[i]:Int)∈L0))=true↔∃ g∈Ls.take (i+1),Rc (Wi true R) s g:=by
  rw [gE8 hli,Bool.or_eq_true,hb,decide_eq_true_iff,hBk]
  simp only [gB0,gBb]
  constructor
  rotate_left
  ·rintro ⟨g,h1 | h1,h2⟩
   ·exact .inl ⟨g,h1,h2⟩
   subst h1;exact .inr ⟨hgm,h2⟩
  rintro (⟨g,h1,h2⟩ | ⟨h1,h2⟩)
  ·exact ⟨g,.inl h1,h2⟩
  exact ⟨_,.inr rfl,h2⟩
 generalize Ls[i]=g at *
 cases b with
 | true=>
  (refine aj (an @A2 (an @gAN.{0,0} @d3)) ?_;repeat refine kq fun K hK=>?_)
  refine W2 ?_
  (refine Zk (an @CM (an @gAQ.{0} (an @hBl (an @gb (an @FV @List.set_set.{0}))))) ?_;(repeat clear hK K);repeat refine kq fun K hK=>?_)
  refine W4 ?_
  refine hK _ (i+1,true) ⟨by simp only;omega,by simp only;rw [<- hstep];simp⟩ (by simp only;omega) ?_
  exact W5
 | false=>
  rw [gA6] at hstep
  (refine aj (an @A2 (an @gAN.{0,0} @d3)) ?_;repeat refine kq fun K hK=>?_)
  refine W2 ?_
  (refine aj (an @CM (an @gAQ.{0} (an @hBl (an @gb (an @gl (an @A2 @gAN.{0,0})))))) ?_;repeat refine kq fun K hK=>?_)
  (refine AY rfl rfl (by simp only [go_sem] <;> rfl) ?_;intro K1 hK1;refine (Av (ids:=[]) (Ha L0 g (by omega)) rfl rfl (by simp only [go_sem]) (by kernel_rfl) (by (simp only [gAk,go_sem]) <;> rfl) ?_).stp)
  rintro _ _ ⟨rfl,rfl⟩
  (refine W1 ?_;clear hK1 K1)
  (refine Zk (an @CM (an @gAQ.{0} (an @hBl (an @gb (an @FV @List.set_set.{0}))))) ?_;(repeat clear hK K);repeat refine kq fun K hK=>?_)
  refine W4 ?_
  refine hK _ (i+1,decide ((g:Int)∈L0)) ⟨by simp only;omega,hstep⟩ (by simp only;omega) ?_
  exact W5
theorem Pe (R:List (List Ar)) (hv:C7 R=true) (hn:R.length<=1000000) (hr:∀ r∈R,r.length<=1000000):FC Tryz.prog 93 [Ba R] [] (fun r o=>∃ B,DvL R B/\o=[]/\r=.a (.c (.t 1 (Ws B)))):=
 (Ry R hv hn hr).frzP (fun B=>Rr B) (by omega) (fun B h=>by rw [DE];have:=h.1;omega)
structure Fw (E:Nat->List Nat) (n:Nat) (F:List Nat) (rd:Int) (seen:List Int) (out:List Nat):Prop where
 len:seen.length=n
 st:∀ u,u<n->(seen.getD u 0=rd↔u∈out)
 nd:out.Nodup
 lt:∀ u∈out,u<n
 snd:∀ u∈out,∃ v∈F,Rc E v u
 bd:∀ x∈seen,x<=rd
variable {E : Nat -> List Nat} {n : Nat} {F : List Nat} {rd : Int} {seen : List Int} {out : List Nat}
theorem Fw.start (h : seen.length = n) (hb : ∀ x ∈ seen, x < rd) : Fw E n F rd seen [] :=
 ⟨h, fun u hu => ⟨fun e => by
  rw [gE2, gE1 (by omega), gBF] at e
  have := hb _ (gE6 (show u < seen.length by omega)); omega, fun h => by simp at h⟩, List.nodup_nil, fun u h => by simp at h, fun u h => by simp at h, fun x h => by have := hb x h; omega⟩
theorem Fw.push (h:Fw E n F rd seen out) {u:Nat} (hu:u<n) (hn:seen.getD u 0 ≠ rd) (hs:∃ v∈F,Rc E v u):Fw E n F rd (seen.set u rd) (out++[u]):=by
 have hno:u ∉ out:=fun hm=>hn ((h.st u hu).2 hm)
 refine ⟨by rw [gAQ];exact h.len,fun w hw=>?_,?_,fun w hw=>?_,fun w hw=>?_,fun x hx=>?_⟩
 rotate_left
 ·exact List.nodup_append.2 ⟨h.nd,by simp,fun a ha b hb=>by simp at hb;subst hb;exact fun e=>hno (e ▸ ha)⟩
 ·rcases gB0.1 hw with h1 | h1
  ·exact h.lt w h1
  simp at h1;omega
 ·rcases gB0.1 hw with h1 | h1
  ·exact h.snd w h1
  simp at h1;subst h1;exact hs
 ·rcases gB9 hx with h1 | h1
  ·exact h.bd x h1
  omega
 rw [gE2,gAE]
 by_cases e:u=w
 ·subst e
  rw [if_pos rfl,if_pos (by rw [h.len];exact hw)]
  simp
 rw [if_neg e,<- gE2,h.st w hw]
 simp [Ne.symm e]
theorem Fw.mem (h:Fw E n F rd seen out) {u:Nat} (hu:u<n) (hs:seen.getD u 0=rd):u∈out:=(h.st u hu).1 hs
theorem Ko:∀ (n:Nat) (l:List Nat),l.Nodup->(∀ u∈l,u<n)->l.length<=n:=by
 intro n
 induction n with
 | zero=>intro l _ h;cases l with
  | nil=>simp
  | cons a r=>have:=h a (by simp);omega
 | succ n ih=>
  intro l hn hl
  have h1:(l.erase n).length<=n:=ih _ (hn.erase n) fun u hu=>by
   have h2:=(List.Nodup.mem_erase_iff hn).1 hu
   have:=hl u h2.2
   omega
  have:=List.length_erase (a:=n) (l:=l)
  split at this <;> omega
theorem Fw.le (h:Fw E n F rd seen out):out.length<=n:=Ko n out h.nd h.lt
theorem Fw.done (h:Fw E n F rd seen out) (hF:∀ v∈F,v∈out) (hc:∀ u∈out,∀ w∈E u,w∈out) (u:Nat):u∈out↔∃ v∈F,Rc E v u:=by
 refine ⟨h.snd u,fun ⟨v,hv,hr⟩=>?_⟩
 induction hr with
 | refl=>exact hF v hv
 | tail _ he ih=>exact hc _ (ih ⟨v,hv,‹_›⟩) _ he
def DV (n:Nat) (p:Nat->Bool):List Nat:=(List.range n).filter p
theorem Bu (n:Nat) (p:Nat->Bool):(DV n p).Pairwise (· < ·):=List.Pairwise.filter _ List.pairwise_lt_range
theorem BI {n:Nat} {p:Nat->Bool} {u:Nat}:u∈DV n p↔u<n/\p u=true:=by simp [DV]
theorem G0:∀ {l m:List Nat},l.Pairwise (· < ·)->m.Pairwise (· < ·)->(∀ a,a∈l↔a∈m)->l=m
 | [],[],_,_,_=>rfl
 | [],b :: m,_,_,h=>by have:=(h b).2 (by simp);simp at this
 | a :: l,[],_,_,h=>by have:=(h a).1 (by simp);simp at this
 | a :: l,b :: m,hl,hm,h=>by
  have hl':=gBe.1 hl
  have hm':=gBe.1 hm
  have hab:a=b:=by
   rcases gB2.1 ((h a).1 (by simp)) with e | e
   ·exact e
   ·rcases gB2.1 ((h b).2 (by simp)) with e' | e'
    ·exact e'.symm
    ·have h1:=hm'.1 a e
     have h2:=hl'.1 b e'
     omega
  subst hab
  congr 1
  refine G0 hl'.2 hm'.2 fun c=>⟨fun hc=>?_,fun hc=>?_⟩
  ·rcases gB2.1 ((h c).1 (gEf _ hc)) with e | e
   ·subst e;have:=hl'.1 c hc;omega
   ·exact e
  ·rcases gB2.1 ((h c).2 (gEf _ hc)) with e | e
   ·subst e;have:=hm'.1 c hc;omega
   ·exact e
theorem Kp {l m:List Nat} {p:Nat->Bool} (hp:m.Perm l) (hs:m.Pairwise (·<=·)) (hn:l.Nodup) (hl:∀ u,u∈l↔u<n/\p u=true):m=DV n p:=by
 have hm:m.Nodup:=hp.symm.nodup hn
 refine G0 ?_ (Bu n p) fun a=>by rw [hp.mem_iff,hl,BI]
 refine List.Pairwise.imp (fun h=>by omega) (List.Pairwise.and hs hm)
theorem Pf {r:List (Int × Int)} {k:Nat} {a:Int × Int} (h0:∀ j b,j<k+1->r[j]?=some b->b.1=0) (hk:r[k]?=some a):a∈r.takeWhile fun a=>a.1 == 0:=by
 induction r generalizing k with
 | nil=>simp at hk
 | cons b r ih=>
  have hb:=h0 0 b (by omega) rfl
  rw [gBl,if_pos (by simp [hb])]
  cases k with
  | zero=>simp at hk;subst hk;simp
  | succ k=>exact gEf _ (ih (k:=k) (fun j c hj hc=>h0 (j+1) c (by omega) (by simpa using hc)) (by simpa using hk))
theorem Kr {r:List (Int × Int)} {k:Nat} {t:Bool} {a:Int × Int} (h0:t=true->∀ j b,j<k+1->r[j]?=some b->b.1=0) (hk:r[k]?=some a):a∈BP t r:=by
 unfold BP
 split
 rotate_left
 ·exact gE9 hk
 rename_i ht
 exact Pf (h0 ht) hk
theorem LC {r:List (Int × Int)} {k:Nat} (h0:∀ j a,j<k->r[j]?=some a->a.1=0) (h1:∀ a,r[k]?=some a->a.1 ≠ 0):BP true r=r.take k:=by
 unfold BP
 rw [if_pos rfl]
 induction r generalizing k with
 | nil=>simp
 | cons a r ih=>
  cases k with
  | zero=>
   have:=h1 a rfl
   simp [gBl,this]
  | succ k=>
   have:=h0 0 a (by omega) rfl
   rw [gBl,if_pos (by simp [this]),gBp,ih (k:=k) (fun j b hj hb=>h0 (j+1) b (by omega) (by simpa using hb)) (fun b hb=>h1 b (by simpa using hb))]
end Go.Proofs.YtbnabodoabimnaaGreat
namespace Go.Proofs.YtbnabodoabimnaaGreat
set_option linter.unusedVariables false
set_option linter.unusedSimpArgs false
open Go.RowKit Go.Shelf Go.Sort
set_option maxRecDepth 100000
section
variable {α : Type} [Inhabited α] {enc : α -> Value} {w : World} {blk off m : Nat} {dk : Array α} {os : Array Obj}
theorem J8:w.heap.size<=(sortWorld enc w blk off m dk os).heap.size:=by
 simp [sortWorld,grow,putRow,mapBlock,Sort.ahead]
theorem Kt {k:Nat} (hk:k<w.heap.size) (hne:k ≠ blk):(sortWorld enc w blk off m dk os).heap[k]?=w.heap[k]?:=by
 simp only [sortWorld,grow,putRow,mapBlock,Sort.ahead]
 rw [Array.getElem?_append_left (by simpa using hk),Array.getElem?_modify,if_neg (Ne.symm hne)]
theorem Rz {arr:Array Value} {e:TypeId} {fz:Nat × Nat} (h:w.heap[blk]?=some (.cells arr e fz)):(sortWorld enc w blk off m dk os).heap[blk]?=some (.cells (putCells enc off dk arr) e fz):=by
 have hk:=(Array.getElem?_eq_some_iff.1 h).1
 simp only [sortWorld,grow,putRow,mapBlock,Sort.ahead]
 rw [Array.getElem?_append_left (by simpa using hk),Array.getElem?_modify,if_pos rfl,h]
 rfl
theorem Un {M:Nat->Prop} (hM:M blk):Fp M w (sortWorld enc w blk off m dk os):=
 ⟨rfl,rfl,rfl,J8,fun k hk hm=>Kt hk (fun e=>hm (e ▸ hM)),by simp [sortWorld,grow,putRow,mapBlock,Sort.ahead]⟩
end
theorem RA {t:Tr} {k:Nat × Nat} {cs:List Tr}:C.ofTr t ≠ .o k cs:=by cases t <;> simp [C.ofTr]
theorem Ww {g:Gh} {α0:Type} {tr:α0->Tr} {e:TypeId} {L:List α0} {ℓ:Loc}:Lv [.r ⟨e,1,true,L.map fun x=>C.ofTr (tr x)⟩] g ℓ↔ℓ=.ob 0/\g.κ 0 ≠ 0:=by
 cases ℓ with
 | ob id=>
  constructor
  rotate_left
  ·rintro ⟨h1,h2⟩
   cases h1
   exact .inl ⟨_,rfl,h2⟩
  rintro (⟨r,h1,h2⟩ | ⟨kv,h1⟩)
  rotate_left
  ·cases id with
   | zero=>simp at h1
   | succ i=>simp at h1
  cases id with
  | zero=>exact ⟨rfl,h2⟩
  | succ i=>simp at h1
 | cl id j=>
  constructor
  rotate_left
  ·rintro ⟨h1,h2⟩;cases h1
  rintro ⟨r,k,cs,h1,h2,h3⟩
  cases id with
  | zero=>
   simp at h1;subst h1
   rw [gAC,gBG] at h2
   obtain ⟨x,_,h2⟩:=h2
   exact absurd h2 RA
  | succ i=>simp at h1
def Wx (x:Int):Tr:=.v (.int .i64 x)
theorem He (L:List Int) (hsz:L.length<=100000000):FC Tryz.prog 110 [.a (.c (.s 0 L.length))] [.r ⟨3,1,true,A9 L⟩] (fun r o=>r=.u/\∃ L':List Int,L'.Perm L/\L'.Pairwise (fun a b=>a<=b)/\o=[.r ⟨3,1,true,A9 L'⟩]):=by
 intro g w vals hr hargs
 obtain ⟨hlen,hargs⟩:=hargs
 obtain ⟨v1,e1,b1,b2,A,rfl,b4,b5⟩:=hargs 0 _ rfl
 have hvals:vals=[.slice A L.length (g.κ 0)]:=by
  match vals,hlen with
  | [a],_=>simp at e1;simp [e1]
 subst hvals
 have lvI:∀ {L:List Int} {ℓ:Loc},Lv [.r ⟨3,1,true,A9 L⟩] g ℓ↔ℓ=.ob 0/\g.κ 0 ≠ 0:=fun {L ℓ}=>Ww (tr:=Wx) (L:=L)
 rcases hr.row 0 _ rfl with ⟨h0,hnil⟩ | ⟨h0,hne,arr,ha,hle,hs,hmx,hcells⟩
 ·have hL0:L=[]:=by
   have h:A9 L=[]:=hnil
   simpa [A9] using h
  subst hL0
  refine (Any.slices_Sort_int_none Tryz.sortInts A (g.κ 0) w).mono ?_
  rintro e' w' ⟨rfl,rfl⟩
  exact ⟨.tuple #[],.u,_,g,rfl,⟨rfl,[],List.Perm.refl _,List.Pairwise.nil,rfl⟩,hr,⟨gBu _,Ext.refl _ _⟩,fun ℓ hl=>.inl ⟨ℓ,hl,rfl⟩,trivial,Fp.refl _ _⟩
 rw [b4 h0] at *
 have hblk:g.γ (.ob 0)<w.heap.size:=(Array.getElem?_eq_some_iff.1 ha).1
 have hOw:Ow [.r ⟨3,1,true,A9 L⟩] g (g.γ (.ob 0)):=.inr ⟨.ob 0,lvI.2 ⟨rfl,h0⟩,rfl⟩
 have hle':L.length<=arr.size:=by simpa [A4] using hle
 have hget:∀ j (hj:j<L.length),arr[j]?=some (.int .i64 L[j]):=by
  intro j hj
  obtain ⟨u,u1,u2⟩:=hcells j (.v (.int .i64 L[j])) (At (gE1 hj))
  rw [u1,show u=.int .i64 L[j] from u2]
 have hH:Holds (Value.int .i64) w (g.γ (.ob 0)) 0 L.toArray:=by
  intro j hj
  simp only [List.size_toArray] at hj
  constructor
  rotate_left
  ·simp [World.frozen?,ha]
  rw [gBD,cell_of_row w _ j arr _ (0,0) ha,hget j hj,getElem!_pos _ j (by simpa using hj)]
  simp
 refine (Any.slices_Sort_int Tryz.sortInts (g.γ (.ob 0)) 0 (g.κ 0) L w hH hblk (by omega)).mono ?_
 rintro e' w' ⟨rfl,m,os,rfl⟩
 obtain ⟨L',hL'⟩:∃ L',L'=L.mergeSort fun x y=>decide (x<=y):=⟨_,rfl⟩
 have hperm:L'.Perm L:=by rw [hL'];exact List.mergeSort_perm _ _
 have hsort:L'.Pairwise (fun a b=>a<=b):=by
  rw [hL']
  have:=List.pairwise_mergeSort (le:=fun x y:Int=>decide (x<=y)) (fun a b c h1 h2=>by simp at *;omega) (fun a b=>by simp;omega) L
  exact this.imp fun h=>by simpa using h
 rw [<- hL']
 have hll:=hperm.length_eq
 show OC _ _ _ _ _ (sortWorld (Value.int .i64) w (g.γ (.ob 0)) 0 m L'.toArray os)
 refine ⟨.tuple #[],.u,_,g,rfl,⟨rfl,L',hperm,hsort,rfl⟩,?_,⟨gBu _,Ext.refl _ _⟩,fun ℓ hl=>.inl ⟨ℓ,lvI.2 (lvI.1 hl),rfl⟩,trivial,Un ⟨.ob 0,lvI.2 ⟨rfl,h0⟩,rfl⟩⟩
 refine ⟨fun b hb=>gBw (hr.ml b hb) J8,fun ℓ hl=>hr.md ℓ (lvI.2 (lvI.1 hl)),fun ℓ ℓ' hl hl'=>hr.inj ℓ ℓ' (lvI.2 (lvI.1 hl)) (lvI.2 (lvI.1 hl')),fun id r hid=>?_,fun id r hid=>?_,hr.gl.keep J8 (fun k hk hn=>Kt hk (fun e=>hn (e ▸ hOw))) (fun k _ hk=>hk.imp (fun h=>h) (fun ⟨ℓ,hl,e⟩=>⟨ℓ,lvI.2 (lvI.1 hl),e⟩))⟩
 rotate_left
 ·cases id with
  | zero=>simp at hid
  | succ i=>simp at hid
 cases id with
 | succ i=>simp at hid
 | zero=>
  simp at hid
  subst hid
  refine .inr ⟨h0,fun _ hn=>?_,_,Rz ha,?_,?_,hmx,fun j c hj=>?_⟩
  ·have h1:L'=[]:=by simpa [A9] using hn
   rw [h1] at hll
   have h2:L=[]:=gAL.1 hll.symm
   exact hne rfl (by simp [h2,A9])
  ·simp only [A4,putCells,Array.size_mapIdx];omega
  ·simpa [putCells] using hs
  have hjl:j<L'.length:=by have:=(List.getElem?_eq_some_iff.1 hj).1;rw [A4] at this;exact this
  have hc:c=.v (.int .i64 L'[j]):=by
   rw [At (gE1 hjl)] at hj
   exact (Option.some.inj hj).symm
  subst hc
  refine ⟨.int .i64 L'[j],?_,rfl⟩
  unfold putCells
  rw [Array.getElem?_mapIdx,gEd (by omega)]
  simp [hjl]
open Go.RowKit
attribute [local go_sem] lga C.pl C.one
def Wy (R:List (List Ar)) (id:Nat) (rd:Int):Ob:=.r ⟨124,3,false,[.t 1 (AK R),.s id R.length,.v (.int .i64 rd)]⟩
theorem N2 (R:List (List Ar)) (hn:R.length<=1000000):FC Tryz.prog 77 [Ba R] [] (fun r o=>o=[Wy R 1 0,.r ⟨3,1,true,A9 (List.replicate R.length 0)⟩]/\r=.a (.c (.p 0 0))):=by
 refine A7 Tryz.func77 rfl (by rw [Tryz.ntmps77];simp) ?_
 rw [Tryz.ntmps77]
 simp only [B4,Ba]
 (refine ai ?_;repeat refine kq fun K hK=>?_)
 refine YH [] (.m 1 0 0 (.m 0 1 6 (.m 2 1 4 (.m 3 0 0 (.a 4 (.m 5 0 0 (.a 6 (.a 7 .e)))))))) ?_
 (refine VY @A6 ?_;repeat clear hK K)
 (refine VL rfl rfl ?_;intro K1 hK1;refine Bl rfl ?_;simp only [go_sem,A6];(first | refine hK1 _ ?_ | refine AE (hK1 _ ?_));clear hK1 K1)
 (refine VX ?_;repeat clear hK K)
 (refine VL rfl rfl ?_;intro K1 hK1;refine Bl rfl ?_;simp only [go_sem];(first | refine hK1 _ ?_ | refine AE (hK1 _ ?_));clear hK1 K1)
 (refine VX ?_;repeat clear hK K)
 (refine VM rfl rfl rfl rfl ?_;intro K1 hK1;refine Bc rfl ?_;simp only [go_sem];(first | refine hK1 _ ?_ | refine AE (hK1 _ ?_));clear hK1 K1)
 refine DY ⟨by simp,by simp,?_⟩
 (try simp only [Ad,Ay])
 refine hK _ ?_
 clear hK K
 have e0:List.replicate R.length (C.v (.int .i64 0))=A9 (List.replicate R.length 0):=by simp [A9]
 rw [e0]
 (refine ai ?_;(repeat clear hK K);repeat refine kq fun K hK=>?_)
 ((try refine Ak ?_);(try simp only [Ad,Ay]);refine AB (A8 [2,1] rfl rfl) ?_;(try simp only [Yn,go_sem]);((try refine Ak ?_);(try refine Aa ?_);(try simp only [Ad,Ay]);refine AN (by first | exact .inl rfl | exact .inr rfl) rfl ?_;simp only [Vm,Cq,Ck,Cx,Tryz.results77,go_sem,true_and,and_true,A5,Wy]))
def Wz:List Ar->Bool
 | []=>true
 | a :: _=>a.1 != 0
theorem N3 (R:List (List Ar)) (s:Nat) (h:s<R.length) (hn:R.length<=1000000) (hr:∀ r∈R,r.length<=1000000):FC Tryz.prog 139 [Ba R,.i s] [] (fun r o=>o=[]/\r=.b (Wz R[s])):=by
 refine A7 Tryz.func139 rfl (by rw [Tryz.ntmps139];simp) ?_
 rw [Tryz.ntmps139]
 simp only [B4,Ba]
 have hg:=gE1 h
 have hrl:=hr _ (gE6 h)
 generalize R[s]=row at *
 by_cases h0:row.length=0
 ·have d0:((row.length:Int) == 0)=true:=by simp [h0]
  (refine aj (an @A6 (an (Ao hg) (an @A3 (an @Aq @d0)))) ?_;(repeat clear hK K);repeat refine kq fun K hK=>?_)
  refine W6 [] Tryz.results139 ?_
  have:row=[]:=gAL.1 h0
  subst this;rfl
 have d0:((row.length:Int) == 0)=false:=by simp;intro e;simp [e] at h0
 have h1:0<row.length:=by omega
 have hc:(Aw row)[Int.toNat 0*2]?=some (.v (.int .i64 row[0].1)):=DQ h1
 (refine aj (an @A6 (an (Ao hg) (an @A3 (an @Aq (an @d0 @hc))))) ?_;(repeat clear hK K);repeat refine kq fun K hK=>?_)
 refine W6 [] Tryz.results139 ?_
 cases row with
 | nil=>exact absurd rfl h0
 | cons a q=>rfl
set_option maxHeartbeats 8000000 in
theorem Ie (R:List (List Ar)) (t:Bool) (F:List Nat) (hlo:BZ R=true) (hn:R.length<=1000000) (hr:∀ r∈R,r.length<=1000000) (hF:∀ v∈F,v<R.length) (hFl:F.length<=1000000) (seen:List Int) (rd:Int) (hs:seen.length=R.length) (hb:∀ x∈seen,x<=rd) (h0:0<=rd) (h1:rd<=1000000000):
  FC Tryz.prog 80 [.a (.c (.p 0 0)),.a (.c (.t 1 (Ac (F.map Int.ofNat)))),.b t] [Wy R 1 rd,.r ⟨3,1,true,A9 seen⟩] (fun r o=>∃ seen':List Int,seen'.length=R.length/\(∀ x∈seen',x<=rd+1)/\∃ p:Nat->Bool,(∀ u,u<R.length->(p u=true↔∃ v∈F,Rc (Wi t R) v u))/\o=[Wy R 1 (rd+1),.r ⟨3,1,true,A9 seen'⟩,.r ⟨3,1,true,A9 ((DV R.length p).map Int.ofNat)⟩]/\r=.a (.c (.s 2 (DV R.length p).length))):=by
 refine A7 Tryz.func80 rfl (by rw [Tryz.ntmps80];simp) ?_
 rw [Tryz.ntmps80]
 simp only [B4,Wy]
 have hbd:=(gE4 hlo).2.2.2
 have hFl2:(F.map Int.ofNat).length=F.length:=by simp
 (refine Zk (an @A2 @hFl2) ?_;(repeat clear hK K);repeat refine kq fun K hK=>?_)
 refine As (BJ 7 3 1 ?_) ?_
 ·simp only [go_sem]
 refine Ab (fun x:Nat × List Int × List Nat=>{ tm:=[(0,.a (.c (.p 0 0))),(2,.b t),(7,.a (.c (.s 2 x.2.2.length))),(20,.a (.c (.t 1 (Ac (F.map Int.ofNat))))),(21,.i F.length),(22,.i x.1)],hp:=[.r ⟨124,3,false,[.t 1 (AK R),.s 1 R.length,.v (.int .i64 (rd+1))]⟩,.r ⟨3,1,true,A9 x.2.1⟩,.r ⟨3,1,true,A9 (x.2.2.map Int.ofNat)⟩],n:=114,pin:=2 }) (fun x=>x.1<=F.length/\Fw (Wi t R) R.length F (rd+1) x.2.1 x.2.2/\∀ v∈F.take x.1,v∈x.2.2) (fun x=>F.length - x.1) (0,seen,[]) ?_ ?_ ?_
 ·exact ⟨by simp,Fw.start hs (fun x hx=>by have:=hb x hx;omega),by simp⟩
 ·exact W5
 rintro ⟨k,sn,out⟩ ⟨hk,hW,hT⟩ K hK
 simp only at hk hW hT
 have hsl:=hW.len
 have hol:=hW.le
 by_cases hlt:k<F.length
 ·have d1:=Yp hlt
  have gF:(Ac (F.map Int.ofNat))[k]?=some (.v (.int .i64 (F[k]:Int))):=Al (by rw [gAC,gE1 hlt];rfl)
  have hul:=hF _ (gE6 hlt)
  have hFk:=gE6 hlt
  have hTk:F.take (k+1)=F.take k++[F[k]]:=gE8 hlt
  generalize F[k]=u at *
  have gs:(A9 sn)[u]?=some (.v (.int .i64 sn[u])):=At (gE1 (by omega))
  have gd:sn.getD u 0=sn[u]:=by rw [gE2,gE1 (by omega)];rfl
  (refine aj @d1 ?_;(repeat clear hK K);repeat refine kq fun K hK=>?_)
  refine W2 ?_
  by_cases hq:sn[u]=rd+1
  ·have d2:(sn[u] != rd+1)=false:=by rw [hq];simp
   have hmem:=hW.mem hul (by rw [gd,hq])
   (refine aj (an @gF (an @A2 @hFl2)) ?_;repeat refine kq fun K hK=>?_)
   refine Yr 11 [(0,0),(1,0),(2,0),(3,1),(4,0),(5,0),(6,1),(7,0),(8,0),(9,0),(10,1),(11,2)] ?_
   (refine VS (an @gs (an @A4 (an @hsl @d2))) ?_;repeat clear hK K)
   refine W3 ?_
   (refine ai ?_;(repeat clear hK K);repeat refine kq fun K hK=>?_)
   refine W4 ?_
   refine hK _ (k+1,sn,out) ⟨by simp only;omega,hW,fun v hv=>?_⟩ (by simp only;omega) ?_
   rotate_left
   ·exact W5
   simp only at hv
   rw [hTk] at hv
   rcases gB0.1 hv with h | h
   ·exact hT v h
   simp at h;subst h;exact hmem
  have d2:(sn[u] != rd+1)=true:=by simpa using hq
  have hW2:=hW.push hul (by rw [gd];exact hq) ⟨u,hFk,.refl _⟩
  have op1:=Eh out u []
  simp only [gAk] at op1
  (refine aj (an @gF (an @A2 @hFl2)) ?_;repeat refine kq fun K hK=>?_)
  refine Yr 11 [(0,0),(1,0),(2,0),(3,1),(4,0),(5,0),(6,1),(7,0),(8,0),(9,0),(10,1),(11,2)] ?_
  (refine VS (an @gs (an @A4 (an @hsl @d2))) ?_;repeat clear hK K)
  refine W2 ?_
  (refine ai ?_;repeat refine kq fun K hK=>?_)
  refine Yr 10 [(0,0),(1,0),(2,0),(3,1),(4,0),(5,0),(6,0),(7,0),(8,1),(9,0),(10,2)] ?_
  (refine SS (an @A4 (an @hsl @Bj)) ?_;repeat clear hK K)
  (refine aj (an @A4 (an @gAN.{0,0} (an @op1 @gBu))) ?_;(repeat clear hK K);repeat refine kq fun K hK=>?_)
  refine W4 ?_
  refine hK _ (k+1,sn.set u (rd+1),out++[u]) ⟨by simp only;omega,hW2,fun v hv=>?_⟩ (by simp only;omega) ?_
  ·simp only at hv
   rw [hTk] at hv
   rcases gB0.1 hv with h | h
   ·exact gB1 _ (hT v h)
   simp at h;subst h;simp
  refine Le.trans (A8 [0,1,4] rfl rfl) ?_
  (try simp only [Yn,go_sem])
  (try simp only [A5])
  simp only [gAI,gAJ,gAO]
  exact W5
 have d1:=Yq hlt
 have hT2:∀ v∈F,v∈out:=fun v hv=>hT v (by rw [gE7 (by omega)];exact hv)
 clear hT
 (refine aj @d1 ?_;repeat refine kq fun K hK=>?_)
 refine W3 ?_
 (refine VZ ?_;repeat clear hK K)
 (refine ai ?_;(repeat clear hK K);repeat refine kq fun K hK=>?_)
 refine Ab (fun x:Nat × List Int × List Nat=>{ tm:=[(0,.a (.c (.p 0 0))),(2,.b t),(7,.a (.c (.s 2 x.2.2.length))),(10,.i x.1)],hp:=[.r ⟨124,3,false,[.t 1 (AK R),.s 1 R.length,.v (.int .i64 (rd+1))]⟩,.r ⟨3,1,true,A9 x.2.1⟩,.r ⟨3,1,true,A9 (x.2.2.map Int.ofNat)⟩],n:=114,pin:=2 }) (fun x=>x.1<=x.2.2.length/\Fw (Wi t R) R.length F (rd+1) x.2.1 x.2.2/\(∀ v∈F,v∈x.2.2)/\∀ (j u:Nat),j<x.1->x.2.2[j]?=some u->∀ w∈Wi t R u,w∈x.2.2) (fun x=>R.length - x.1) (0,sn,out) ?_ ?_ ?_
 ·exact ⟨by simp,hW,hT2,by simp⟩
 ·exact W5
 clear hW hT2 hsl hol hk hlt d1
 clear out sn
 rintro ⟨i,sn,out⟩ ⟨hi,hW,hT,hC⟩ K hK
 simp only at hi hW hT hC
 have hsl:=hW.len
 have hol:=hW.le
 by_cases hlt:i<out.length
 rotate_left
 ·have d1:=Yq hlt
  obtain ⟨p,hp⟩:∃ p:Nat->Bool,p=fun u=>decide (u∈out):=⟨_,rfl⟩
  have hdone:=hW.done hT (fun u hu w hw=>by
   obtain ⟨j,hj⟩:=List.getElem?_of_mem hu
   exact hC j u (by have:=(List.getElem?_eq_some_iff.1 hj).1;omega) hj w hw)
  have hlm:(out.map Int.ofNat).length=out.length:=by simp
  (refine aj (an @d1 (an @A4 @gAN.{0,0})) ?_;repeat refine kq fun K hK=>?_)
  refine W3 ?_
  (refine VZ ?_;repeat clear hK K)
  rw [<- hlm]
  (refine ai ?_;(repeat clear hK K);repeat refine kq fun K hK=>?_)
  (refine Aj rfl ?_;intro K1 hK1;refine Ax (ids:=[]) [2] (He (out.map Int.ofNat) (by rw [hlm];omega)) rfl rfl (by simp only [go_sem]) (by first | assumption | kernel_rfl) rfl rfl (by (simp only [gAT,gAk,go_sem]) <;> rfl) (by (simp only [Vk,A5,go_sem]) <;> rfl) ?_ ?_)
  ·rintro _ _ ⟨rfl,L',_,_,rfl⟩;rfl
  rintro _ _ ⟨rfl,L',hperm,hsort,rfl⟩
  (simp only [Ap,AC,AL,Ys,go_sem];refine hK1 _ ?_;clear hK1 K1)
  have hLo:L'=(DV R.length p).map Int.ofNat:=by
   obtain ⟨m,hm⟩:∃ m:List Nat,L'=m.map Int.ofNat:=by
    refine ⟨L'.map Int.toNat,?_⟩
    rw [gAW]
    refine (List.map_id L').symm.trans (gAU fun x hx=>?_)
    have h:=(hperm.mem_iff).1 hx
    obtain ⟨y,_,rfl⟩:=gB7.1 h
    rfl
   subst hm
   have hp2:m.Perm out:=by
    have:=hperm.map Int.toNat
    simpa [gAW,gAb] using this
   have hs2:m.Pairwise (·<=·):=by
    rw [List.pairwise_map] at hsort
    exact hsort.imp fun h=>by simpa using h
   rw [Kp (p:=p) hp2 hs2 hW.nd (fun u=>⟨fun h=>⟨hW.lt u h,by rw [hp];simpa using h⟩,fun h=>by have:=h.2;rw [hp] at this;simpa using this⟩)]
  have hll:out.length=(DV R.length p).length:=by have h:=hperm.length_eq;rw [hLo] at h;simpa using h.symm
  rw [hll,hLo]
  (refine ai ?_;(repeat clear hK K);repeat refine kq fun K hK=>?_)
  ((try refine Ak ?_);(try simp only [Ad,Ay]);refine AB (A8 [0,1,2] rfl rfl) ?_;(try simp only [Yn,go_sem]);((try refine Ak ?_);(try refine Aa ?_);(try simp only [Ad,Ay]);refine AN (by first | exact .inl rfl | exact .inr rfl) rfl ?_;simp only [Vm,Cq,Ck,Cx,Tryz.results80,go_sem,true_and,and_true,A5,Wy]))
  exact ⟨sn,hsl,hW.bd,p,fun u hu=>by rw [<- hdone u,hp];simp,rfl,rfl⟩
 have d1:=Yp hlt
 have go:(A9 (out.map Int.ofNat))[i]?=some (.v (.int .i64 (out[i]:Int))):=At (by rw [gAC,gE1 hlt];rfl)
 have hul:=hW.lt _ (gE6 hlt)
 have hsu:=hW.snd _ (gE6 hlt)
 have hoi:out[i]?=some out[i]:=gE1 hlt
 generalize out[i]=u at *
 have hgR:=gE1 hul
 have hrl:=hr _ (gE6 hul)
 have hbr:=hbd _ (gE6 hul)
 have hAu:Wi t R u=(BP t R[u]).map fun a=>a.2.toNat:=by
  unfold Wi;rw [gE2,hgR];rfl
 generalize hrr:R[u]=row at *
 have hKo:=hK
 (refine aj (an @d1 (an @A4 @gAN.{0,0})) ?_;repeat refine kq fun K hK=>?_)
 refine W2 ?_
 (refine ai ?_;repeat refine kq fun K hK=>?_)
 refine Yr 11 [(0,0),(1,0),(2,0),(3,0),(4,1),(5,0),(6,0),(7,0),(8,1),(9,0),(10,1),(12,0),(11,2)] ?_
 (refine VS (an @A6 (an (Ao hgR) (an @A4 (an @gAN.{0,0} (an @go (an @A3 @Aq)))))) ?_;repeat clear hK K)
 (refine ai ?_;(repeat clear hK K);repeat refine kq fun K hK=>?_)
 refine Ab (fun x:Nat × List Int × List Nat=>{ tm:=[(0,.a (.c (.p 0 0))),(2,.b t),(7,.a (.c (.s 2 x.2.2.length))),(10,.i i),(69,.a (.c (.t 2 (Aw row)))),(70,.i row.length),(71,.i x.1)],hp:=[.r ⟨124,3,false,[.t 1 (AK R),.s 1 R.length,.v (.int .i64 (rd+1))]⟩,.r ⟨3,1,true,A9 x.2.1⟩,.r ⟨3,1,true,A9 (x.2.2.map Int.ofNat)⟩],n:=114,pin:=2 }) (fun x=>x.1<=row.length/\Fw (Wi t R) R.length F (rd+1) x.2.1 x.2.2/\(∃ l,x.2.2=out++l)/\(t=true->∀ j a,j<x.1->row[j]?=some a->a.1=0)/\∀ a∈row.take x.1,a.2.toNat∈x.2.2) (fun x=>row.length - x.1) (0,sn,out) ?_ ?_ ?_
 ·exact ⟨by simp,hW,⟨[],by simp⟩,by simp,by simp⟩
 ·exact W5
 have fin:∀ (sn1:List Int) (out1:List Nat),Fw (Wi t R) R.length F (rd+1) sn1 out1->(∃ l,out1=out++l)->(∀ a∈BP t row,a.2.toNat∈out1)->(i+1<=out1.length/\Fw (Wi t R) R.length F (rd+1) sn1 out1/\(∀ v∈F,v∈out1)/\∀ (j u:Nat),j<i+1->out1[j]?=some u->∀ w∈Wi t R u,w∈out1):=by
  rintro sn1 out1 q1 ⟨l,rfl⟩ q3
  refine ⟨by simp;omega,q1,fun v hv=>gB1 _ (hT v hv),fun j x hj hx w hw=>?_⟩
  rw [gEa (by omega)] at hx
  by_cases e:j=i
  rotate_left
  ·exact gB1 _ (hC j x (by omega) hx w hw)
  subst e
  rw [hoi] at hx;cases hx
  rw [hAu] at hw
  obtain ⟨a,ha,rfl⟩:=gB7.1 hw
  exact q3 a ha
 rintro ⟨k,sn1,out1⟩ ⟨hk,hW1,hl1,hz,hT1⟩ K hK
 simp only at hk hW1 hl1 hz hT1
 have hsl1:=hW1.len
 have hol1:=hW1.le
 by_cases hlt2:k<row.length
 rotate_left
 ·have d2:=Yq hlt2
  (refine aj @d2 ?_;repeat refine kq fun K hK=>?_)
  refine W3 ?_
  (refine VZ ?_;repeat clear hK K)
  (refine ai ?_;(repeat clear hK K);repeat refine kq fun K hK=>?_)
  refine W4 ?_
  refine hKo _ (i+1,sn1,out1) (fin sn1 out1 hW1 hl1 (fun a ha=>?_)) (by simp only;omega) ?_
  rotate_left
  ·exact W5
  refine hT1 a ?_
  rw [gE7 (by omega)]
  unfold BP at ha
  split at ha
  ·exact (List.takeWhile_sublist _).subset ha
  exact ha
 have d2:=Yp hlt2
 have hat:=AS hlt2
 have hb2:=hbr _ (gE6 hlt2)
 have hrk:row[k]?=some row[k]:=gE1 hlt2
 have hTk:row.take (k+1)=row.take k++[row[k]]:=gE8 hlt2
 generalize row[k]=a at *
 obtain ⟨e,tn,rfl⟩:∃ (e:Int) (tn:Nat),a=(e,(tn:Int)):=⟨a.1,a.2.toNat,by
  have:(a.2.toNat:Int)=a.2:=by omega
  rw [this]⟩
 simp only at hb2
 have htn:tn<R.length:=by omega
 by_cases hst:t=true/\e ≠ 0
 ·obtain ⟨ht,he⟩:=hst
  subst ht
  have d3:(e != 0)=true:=by simpa using he
  (refine aj @d2 ?_;repeat refine kq fun K hK=>?_)
  refine W2 ?_
  (refine Zk (an @hat (an @A3 (an @Aq @d3))) ?_;repeat refine kq fun K hK=>?_)
  refine W2 ?_
  (refine VZ ?_;repeat clear hK K)
  (refine ai ?_;(repeat clear hK K);repeat refine kq fun K hK=>?_)
  refine W4 ?_
  refine hKo _ (i+1,sn1,out1) (fin sn1 out1 hW1 hl1 (fun a ha=>?_)) (by simp only;omega) ?_
  ·rw [LC (hz rfl) (fun b hb=>by rw [hrk] at hb;cases hb;exact he)] at ha
   exact hT1 a ha
  refine Le.trans (A8 [0,1,2] rfl rfl) ?_
  (try simp only [Yn,go_sem])
  (try simp only [A5])
  exact W5
 have hz2:t=true->∀ j a,j<k+1->row[j]?=some a->a.1=0:=fun ht j a hj ha=>by
  by_cases e2:j=k
  rotate_left
  ·exact hz ht j a (by omega) ha
  subst e2
  rw [hrk] at ha;cases ha
  exact Decidable.byContradiction fun h=>hst ⟨ht,h⟩
 have gs:(A9 sn1)[tn]?=some (.v (.int .i64 sn1[tn])):=At (gE1 (by omega))
 have gd:sn1.getD tn 0=sn1[tn]:=by rw [gE2,gE1 (by omega)];rfl
 cases t with
 | false=>
  (refine aj @d2 ?_;repeat refine kq fun K hK=>?_)
  refine W2 ?_
  (refine Zk (an @hat (an @A3 @Aq)) ?_;(repeat clear hK K);repeat refine kq fun K hK=>?_)
  refine W3 ?_
  by_cases hq:sn1[tn]=rd+1
  ·have d4:(sn1[tn] != rd+1)=false:=by rw [hq];simp
   have hmem:=hW1.mem htn (by rw [gd,hq])
   (refine ai ?_;repeat refine kq fun K hK=>?_)
   refine Yr 12 [(0,0),(1,0),(2,0),(3,1),(4,0),(5,1),(6,0),(7,1),(8,0),(9,0),(10,0),(11,1),(12,2)] ?_
   (refine VS (an @gs (an @A4 (an @hsl1 @d4))) ?_;repeat clear hK K)
   refine W3 ?_
   (refine ai ?_;(repeat clear hK K);repeat refine kq fun K hK=>?_)
   refine W4 ?_
   refine hK _ (k+1,sn1,out1) ⟨by simp only;omega,hW1,hl1,hz2,fun a ha=>?_⟩ (by simp only;omega) ?_
   rotate_left
   ·refine Le.trans (A8 [0,1,2] rfl rfl) ?_
    (try simp only [Yn,go_sem])
    (try simp only [A5])
    exact W5
   simp only at ha
   rw [hTk] at ha
   rcases gB0.1 ha with h | h
   ·exact hT1 a h
   simp at h;subst h;simpa using hmem
  have d4:(sn1[tn] != rd+1)=true:=by simpa using hq
  obtain ⟨v,hv,hvu⟩:=hsu
  have hW2:=hW1.push htn (by rw [gd];exact hq) ⟨v,hv,hvu.tail (by rw [hAu];exact gB7.2 ⟨(e,(tn:Int)),Kr hz2 hrk,by simp⟩)⟩
  have op1:=Eh out1 tn []
  simp only [gAk] at op1
  (refine ai ?_;repeat refine kq fun K hK=>?_)
  refine Yr 12 [(0,0),(1,0),(2,0),(3,1),(4,0),(5,1),(6,0),(7,1),(8,0),(9,0),(10,0),(11,1),(12,2)] ?_
  (refine VS (an @gs (an @A4 (an @hsl1 @d4))) ?_;repeat clear hK K)
  refine W2 ?_
  (refine ai ?_;repeat refine kq fun K hK=>?_)
  refine Yr 11 [(0,0),(1,0),(2,0),(3,1),(4,0),(5,1),(6,0),(7,0),(8,0),(9,1),(10,0),(11,2)] ?_
  (refine SS (an @A4 (an @hsl1 @Bj)) ?_;repeat clear hK K)
  (refine aj (an @A4 (an @gAN.{0,0} (an @op1 @gBu))) ?_;(repeat clear hK K);repeat refine kq fun K hK=>?_)
  refine W4 ?_
  obtain ⟨l,hl⟩:=hl1
  refine hK _ (k+1,sn1.set tn (rd+1),out1++[tn]) ⟨by simp only;omega,hW2,⟨l++[tn],by simp only;rw [hl,gAj]⟩,hz2,fun a ha=>?_⟩ (by simp only;omega) ?_
  ·simp only at ha
   rw [hTk] at ha
   rcases gB0.1 ha with h | h
   ·exact gB1 _ (hT1 a h)
   simp at h;subst h;simp
  refine Le.trans (A8 [0,1,5] rfl rfl) ?_
  (try simp only [Yn,go_sem])
  (try simp only [A5])
  simp only [gAI,gAJ,gAO]
  exact W5
 | true=>
  have d3:(e != 0)=false:=by
   have:e=0:=Decidable.byContradiction fun h=>hst ⟨rfl,h⟩
   simp [this]
  (refine aj @d2 ?_;repeat refine kq fun K hK=>?_)
  refine W2 ?_
  (refine Zk (an @hat (an @A3 (an @Aq @d3))) ?_;(repeat clear hK K);repeat refine kq fun K hK=>?_)
  refine W3 ?_
  by_cases hq:sn1[tn]=rd+1
  ·have d4:(sn1[tn] != rd+1)=false:=by rw [hq];simp
   have hmem:=hW1.mem htn (by rw [gd,hq])
   (refine ai ?_;repeat refine kq fun K hK=>?_)
   refine Yr 12 [(0,0),(1,0),(2,0),(3,1),(4,0),(5,1),(6,0),(7,1),(8,0),(9,0),(10,0),(11,1),(12,2)] ?_
   (refine VS (an @gs (an @A4 (an @hsl1 @d4))) ?_;repeat clear hK K)
   refine W3 ?_
   (refine ai ?_;(repeat clear hK K);repeat refine kq fun K hK=>?_)
   refine W4 ?_
   refine hK _ (k+1,sn1,out1) ⟨by simp only;omega,hW1,hl1,hz2,fun a ha=>?_⟩ (by simp only;omega) ?_
   rotate_left
   ·refine Le.trans (A8 [0,1,2] rfl rfl) ?_
    (try simp only [Yn,go_sem])
    (try simp only [A5])
    exact W5
   simp only at ha
   rw [hTk] at ha
   rcases gB0.1 ha with h | h
   ·exact hT1 a h
   simp at h;subst h;simpa using hmem
  have d4:(sn1[tn] != rd+1)=true:=by simpa using hq
  obtain ⟨v,hv,hvu⟩:=hsu
  have hW2:=hW1.push htn (by rw [gd];exact hq) ⟨v,hv,hvu.tail (by rw [hAu];exact gB7.2 ⟨(e,(tn:Int)),Kr hz2 hrk,by simp⟩)⟩
  have op1:=Eh out1 tn []
  simp only [gAk] at op1
  (refine ai ?_;repeat refine kq fun K hK=>?_)
  refine Yr 12 [(0,0),(1,0),(2,0),(3,1),(4,0),(5,1),(6,0),(7,1),(8,0),(9,0),(10,0),(11,1),(12,2)] ?_
  (refine VS (an @gs (an @A4 (an @hsl1 @d4))) ?_;repeat clear hK K)
  refine W2 ?_
  (refine ai ?_;repeat refine kq fun K hK=>?_)
  refine Yr 11 [(0,0),(1,0),(2,0),(3,1),(4,0),(5,1),(6,0),(7,0),(8,0),(9,1),(10,0),(11,2)] ?_
  (refine SS (an @A4 (an @hsl1 @Bj)) ?_;repeat clear hK K)
  (refine aj (an @A4 (an @gAN.{0,0} (an @op1 @gBu))) ?_;(repeat clear hK K);repeat refine kq fun K hK=>?_)
  refine W4 ?_
  obtain ⟨l,hl⟩:=hl1
  refine hK _ (k+1,sn1.set tn (rd+1),out1++[tn]) ⟨by simp only;omega,hW2,⟨l++[tn],by simp only;rw [hl,gAj]⟩,hz2,fun a ha=>?_⟩ (by simp only;omega) ?_
  ·simp only at ha
   rw [hTk] at ha
   rcases gB0.1 ha with h | h
   ·exact gB1 _ (hT1 a h)
   simp at h;subst h;simp
  refine Le.trans (A8 [0,1,5] rfl rfl) ?_
  (try simp only [Yn,go_sem])
  (try simp only [A5])
  simp only [gAI,gAJ,gAO]
  exact W5
def WA (r:List Ar) (e:Int):List Nat:=(r.filter fun a=>a.1 == e).map fun a=>a.2.toNat
def tg (R:List (List Ar)) (F:List Nat) (e:Int):List Nat:=F.flatMap fun s=>WA (R.getD s []) e
theorem DF {r:List Ar} {e:Int} {u:Nat}:u∈WA r e↔∃ a∈r,a.1=e/\a.2.toNat=u:=by
 unfold WA
 rw [gB7]
 constructor
 rotate_left
 ·rintro ⟨a,ha,he,rfl⟩
  exact ⟨a,gB4.2 ⟨ha,by simpa using he⟩,rfl⟩
 rintro ⟨a,ha,rfl⟩
 have:=gB4.1 ha
 exact ⟨a,this.1,by simpa using this.2,rfl⟩
theorem Yx {R:List (List Ar)} {F:List Nat} {e:Int} {u:Nat}:u∈tg R F e↔∃ s∈F,u∈WA (R.getD s []) e:=by unfold tg;rw [gB5]
def WB (_:Nat):List Nat:=[]
theorem Uo {u v:Nat} (h:Rc WB u v):v=u:=by
 cases h with
 | refl=>rfl
 | tail _ he=>simp [WB] at he
set_option maxHeartbeats 8000000 in
theorem J9 (R:List (List Ar)) (F:List Nat) (e:Int) (hlo:BZ R=true) (hn:R.length<=1000000) (hr:∀ r∈R,r.length<=1000000) (hF:∀ v∈F,v<R.length) (hFl:F.length<=1000000) (seen:List Int) (rd:Int) (hs:seen.length=R.length) (hb:∀ x∈seen,x<=rd) (h0:0<=rd) (h1:rd<=1000000000):
  FC Tryz.prog 137 [.a (.c (.p 0 0)),.a (.c (.t 1 (Ac (F.map Int.ofNat)))),.i e] [Wy R 1 rd,.r ⟨3,1,true,A9 seen⟩] (fun r o=>∃ seen':List Int,seen'.length=R.length/\(∀ x∈seen',x<=rd+1)/\∃ p:Nat->Bool,(∀ u,u<R.length->(p u=true↔u∈tg R F e))/\o=[Wy R 1 (rd+1),.r ⟨3,1,true,A9 seen'⟩,.r ⟨3,1,true,A9 ((DV R.length p).map Int.ofNat)⟩]/\r=.a (.c (.s 2 (DV R.length p).length))):=by
 refine A7 Tryz.func137 rfl (by rw [Tryz.ntmps137];simp) ?_
 rw [Tryz.ntmps137]
 simp only [B4,Wy]
 have hbd:=(gE4 hlo).2.2.2
 have hFl2:(F.map Int.ofNat).length=F.length:=by simp
 (refine Zk (an @A2 @hFl2) ?_;(repeat clear hK K);repeat refine kq fun K hK=>?_)
 refine As (BJ 7 3 1 ?_) ?_
 ·simp only [go_sem]
 refine Ab (fun x:Nat × List Int × List Nat=>{ tm:=[(0,.a (.c (.p 0 0))),(2,.i e),(7,.a (.c (.s 2 x.2.2.length))),(19,.a (.c (.t 1 (Ac (F.map Int.ofNat))))),(20,.i F.length),(21,.i x.1)],hp:=[.r ⟨124,3,false,[.t 1 (AK R),.s 1 R.length,.v (.int .i64 (rd+1))]⟩,.r ⟨3,1,true,A9 x.2.1⟩,.r ⟨3,1,true,A9 (x.2.2.map Int.ofNat)⟩],n:=78,pin:=2 }) (fun x=>x.1<=F.length/\Fw WB R.length (tg R F e) (rd+1) x.2.1 x.2.2/\∀ v∈tg R (F.take x.1) e,v∈x.2.2) (fun x=>F.length - x.1) (0,seen,[]) ?_ ?_ ?_
 ·exact ⟨by simp,Fw.start hs (fun x hx=>by have:=hb x hx;omega),by simp [tg]⟩
 ·exact W5
 rintro ⟨k,sn,out⟩ ⟨hk,hW,hT⟩ K hK
 simp only at hk hW hT
 have hsl:=hW.len
 have hol:=hW.le
 by_cases hlt:k<F.length
 rotate_left
 ·have d1:=Yq hlt
  obtain ⟨p,hp⟩:∃ p:Nat->Bool,p=fun u=>decide (u∈out):=⟨_,rfl⟩
  have hdone:∀ u,u∈out↔u∈tg R F e:=fun u=>⟨fun h=>by
   obtain ⟨v,hv,hr⟩:=hW.snd u h
   rw [Uo hr];exact hv,fun h=>hT u (by rw [gE7 (by omega)];exact h)⟩
  have hlm:(out.map Int.ofNat).length=out.length:=by simp
  (refine aj @d1 ?_;repeat refine kq fun K hK=>?_)
  refine W3 ?_
  (refine VZ ?_;repeat clear hK K)
  rw [<- hlm]
  (refine ai ?_;(repeat clear hK K);repeat refine kq fun K hK=>?_)
  (refine Aj rfl ?_;intro K1 hK1;refine Ax (ids:=[]) [2] (He (out.map Int.ofNat) (by rw [hlm];omega)) rfl rfl (by simp only [go_sem]) (by first | assumption | kernel_rfl) rfl rfl (by (simp only [gAT,gAk,go_sem]) <;> rfl) (by (simp only [Vk,A5,go_sem]) <;> rfl) ?_ ?_)
  ·rintro _ _ ⟨rfl,L',_,_,rfl⟩;rfl
  rintro _ _ ⟨rfl,L',hperm,hsort,rfl⟩
  (simp only [Ap,AC,AL,Ys,go_sem];refine hK1 _ ?_;clear hK1 K1)
  have hLo:L'=(DV R.length p).map Int.ofNat:=by
   obtain ⟨m,hm⟩:∃ m:List Nat,L'=m.map Int.ofNat:=by
    refine ⟨L'.map Int.toNat,?_⟩
    rw [gAW]
    refine (List.map_id L').symm.trans (gAU fun x hx=>?_)
    have h:=(hperm.mem_iff).1 hx
    obtain ⟨y,_,rfl⟩:=gB7.1 h
    rfl
   subst hm
   have hp2:m.Perm out:=by
    have:=hperm.map Int.toNat
    simpa [gAW,gAb] using this
   have hs2:m.Pairwise (·<=·):=by
    rw [List.pairwise_map] at hsort
    exact hsort.imp fun h=>by simpa using h
   rw [Kp (p:=p) hp2 hs2 hW.nd (fun u=>⟨fun h=>⟨hW.lt u h,by rw [hp];simpa using h⟩,fun h=>by have:=h.2;rw [hp] at this;simpa using this⟩)]
  have hll:out.length=(DV R.length p).length:=by have h:=hperm.length_eq;rw [hLo] at h;simpa using h.symm
  rw [hll,hLo]
  (refine ai ?_;(repeat clear hK K);repeat refine kq fun K hK=>?_)
  ((try refine Ak ?_);(try simp only [Ad,Ay]);refine AB (A8 [0,1,2] rfl rfl) ?_;(try simp only [Yn,go_sem]);((try refine Ak ?_);(try refine Aa ?_);(try simp only [Ad,Ay]);refine AN (by first | exact .inl rfl | exact .inr rfl) rfl ?_;simp only [Vm,Cq,Ck,Cx,Tryz.results137,go_sem,true_and,and_true,A5,Wy]))
  exact ⟨sn,hsl,hW.bd,p,fun u hu=>by rw [<- hdone u,hp];simp,rfl,rfl⟩
 have d1:=Yp hlt
 have gF:(Ac (F.map Int.ofNat))[k]?=some (.v (.int .i64 (F[k]:Int))):=Al (by rw [gAC,gE1 hlt];rfl)
 have hul:=hF _ (gE6 hlt)
 have hFk:=gE6 hlt
 have hTk:F.take (k+1)=F.take k++[F[k]]:=gE8 hlt
 generalize F[k]=u at *
 have hgR:=gE1 hul
 have hrl:=hr _ (gE6 hul)
 have hbr:=hbd _ (gE6 hul)
 have hRu:R.getD u []=R[u]:=by rw [gE2,hgR];rfl
 generalize hrr:R[u]=row at *
 have hKo:=hK
 (refine aj @d1 ?_;repeat refine kq fun K hK=>?_)
 refine W2 ?_
 (refine aj (an @gF (an @A2 (an @hFl2 (an @A6 (an (Ao hgR) (an @A3 @Aq)))))) ?_;(repeat clear hK K);repeat refine kq fun K hK=>?_)
 refine Ab (fun x:Nat × List Int × List Nat=>{ tm:=[(0,.a (.c (.p 0 0))),(2,.i e),(7,.a (.c (.s 2 x.2.2.length))),(19,.a (.c (.t 1 (Ac (F.map Int.ofNat))))),(20,.i F.length),(21,.i k),(32,.a (.c (.t 2 (Aw row)))),(33,.i row.length),(34,.i x.1)],hp:=[.r ⟨124,3,false,[.t 1 (AK R),.s 1 R.length,.v (.int .i64 (rd+1))]⟩,.r ⟨3,1,true,A9 x.2.1⟩,.r ⟨3,1,true,A9 (x.2.2.map Int.ofNat)⟩],n:=78,pin:=2 }) (fun x=>x.1<=row.length/\Fw WB R.length (tg R F e) (rd+1) x.2.1 x.2.2/\(∀ v∈out,v∈x.2.2)/\∀ a∈row.take x.1,a.1=e->a.2.toNat∈x.2.2) (fun x=>row.length - x.1) (0,sn,out) ?_ ?_ ?_
 ·exact ⟨by simp,hW,fun v h=>h,by simp⟩
 ·exact W5
 rintro ⟨j,sn1,out1⟩ ⟨hj,hW1,hl1,hT1⟩ K hK
 simp only at hj hW1 hl1 hT1
 have hsl1:=hW1.len
 have hol1:=hW1.le
 by_cases hlt2:j<row.length
 rotate_left
 ·have d2:=Yq hlt2
  (refine aj @d2 ?_;repeat refine kq fun K hK=>?_)
  refine W3 ?_
  (refine VZ ?_;repeat clear hK K)
  (refine ai ?_;(repeat clear hK K);repeat refine kq fun K hK=>?_)
  refine W4 ?_
  refine hKo _ (k+1,sn1,out1) ⟨by simp only;omega,hW1,fun v hv=>?_⟩ (by simp only;omega) ?_
  rotate_left
  ·exact W5
  simp only at hv
  rw [Yx] at hv
  obtain ⟨s,hs1,hs2⟩:=hv
  rw [hTk] at hs1
  rcases gB0.1 hs1 with h | h
  ·exact hl1 v (hT v (Yx.2 ⟨s,h,hs2⟩))
  simp at h;subst h
  rw [hRu] at hs2
  obtain ⟨a,ha,hae,rfl⟩:=DF.1 hs2
  exact hT1 a (by rw [gE7 (by omega)];exact ha) hae
 have d2:=Yp hlt2
 have hat:=AS hlt2
 have hb2:=hbr _ (gE6 hlt2)
 have hmem:=gE6 hlt2
 have hTj:row.take (j+1)=row.take j++[row[j]]:=gE8 hlt2
 generalize row[j]=a at *
 obtain ⟨ev,tn,rfl⟩:∃ (ev:Int) (tn:Nat),a=(ev,(tn:Int)):=⟨a.1,a.2.toNat,by
  have:(a.2.toNat:Int)=a.2:=by omega
  rw [this]⟩
 simp only at hb2
 have htn:tn<R.length:=by omega
 have gs:(A9 sn1)[tn]?=some (.v (.int .i64 sn1[tn])):=At (gE1 (by omega))
 have gd:sn1.getD tn 0=sn1[tn]:=by rw [gE2,gE1 (by omega)];rfl
 (refine aj @d2 ?_;repeat refine kq fun K hK=>?_)
 refine W2 ?_
 (refine Zk (an @hat (an @A3 @Aq)) ?_;(repeat clear hK K);repeat refine kq fun K hK=>?_)
 by_cases he:ev=e
 rotate_left
 ·have d3:(ev == e)=false:=by simpa using he
  refine Yr 18 [(0,0),(1,1),(2,0),(3,0),(4,0),(5,0),(6,0),(7,0),(8,1),(9,0),(10,1),(11,0),(12,1),(13,0),(14,0),(15,0),(16,1),(17,0),(18,2)] ?_
  (refine VQ (an @d3 (an @A4 @hsl1)) ?_;repeat clear hK K)
  refine W3 ?_
  (refine ai ?_;(repeat clear hK K);repeat refine kq fun K hK=>?_)
  refine W4 ?_
  refine hK _ (j+1,sn1,out1) ⟨by simp only;omega,hW1,hl1,fun a ha hae=>?_⟩ (by simp only;omega) ?_
  rotate_left
  ·refine Le.trans (A8 [0,1,2] rfl rfl) ?_
   (try simp only [Yn,go_sem])
   (try simp only [A5])
   exact W5
  simp only at ha
  rw [hTj] at ha
  rcases gB0.1 ha with h | h
  ·exact hT1 a h hae
  simp at h;subst h;exact absurd hae he
 have d3:(ev == e)=true:=by simpa using he
 by_cases hq:sn1[tn]=rd+1
 ·have d4:(sn1[tn] != rd+1)=false:=by rw [hq];simp
  have hin:=hW1.mem htn (by rw [gd,hq])
  refine Yr 18 [(0,0),(1,1),(2,0),(3,0),(4,0),(5,0),(6,0),(7,0),(8,1),(9,0),(10,1),(11,0),(12,1),(13,0),(14,0),(15,0),(16,1),(17,0),(18,2)] ?_
  (refine VQ (an @d3 (an @gs (an @A4 (an @hsl1 @d4)))) ?_;repeat clear hK K)
  refine W3 ?_
  (refine ai ?_;(repeat clear hK K);repeat refine kq fun K hK=>?_)
  refine W4 ?_
  refine hK _ (j+1,sn1,out1) ⟨by simp only;omega,hW1,hl1,fun a ha hae=>?_⟩ (by simp only;omega) ?_
  rotate_left
  ·refine Le.trans (A8 [0,1,2] rfl rfl) ?_
   (try simp only [Yn,go_sem])
   (try simp only [A5])
   exact W5
  simp only at ha
  rw [hTj] at ha
  rcases gB0.1 ha with h | h
  ·exact hT1 a h hae
  simp at h;subst h;simpa using hin
 have d4:(sn1[tn] != rd+1)=true:=by simpa using hq
 have hW2:=hW1.push htn (by rw [gd];exact hq) ⟨tn,Yx.2 ⟨u,hFk,by rw [hRu];exact DF.2 ⟨_,hmem,he,by simp⟩⟩,.refl _⟩
 have op1:=Eh out1 tn []
 simp only [gAk] at op1
 refine Yr 18 [(0,0),(1,1),(2,0),(3,0),(4,0),(5,0),(6,0),(7,0),(8,1),(9,0),(10,1),(11,0),(12,1),(13,0),(14,0),(15,0),(16,1),(17,0),(18,2)] ?_
 (refine VQ (an @d3 (an @gs (an @A4 (an @hsl1 @d4)))) ?_;repeat clear hK K)
 refine W2 ?_
 (refine ai ?_;repeat refine kq fun K hK=>?_)
 refine Yr 11 [(0,0),(1,0),(2,0),(3,1),(4,0),(5,1),(6,0),(7,0),(8,0),(9,1),(10,0),(11,2)] ?_
 (refine SS (an @A4 (an @hsl1 @Bj)) ?_;repeat clear hK K)
 (refine aj (an @A4 (an @gAN.{0,0} (an @op1 @gBu))) ?_;(repeat clear hK K);repeat refine kq fun K hK=>?_)
 refine W4 ?_
 refine hK _ (j+1,sn1.set tn (rd+1),out1++[tn]) ⟨by simp only;omega,hW2,fun v hv=>gB1 _ (hl1 v hv),fun a ha hae=>?_⟩ (by simp only;omega) ?_
 ·simp only at ha
  rw [hTj] at ha
  rcases gB0.1 ha with h | h
  ·exact gB1 _ (hT1 a h hae)
  simp at h;subst h;simp
 refine Le.trans (A8 [0,1,5] rfl rfl) ?_
 (try simp only [Yn,go_sem])
 (try simp only [A5])
 simp only [gAI,gAJ,gAO]
 exact W5
end Go.Proofs.YtbnabodoabimnaaGreat
namespace Go.Proofs.YtbnabodoabimnaaGreat
set_option linter.unusedVariables false
set_option linter.unusedSimpArgs false
open Go.RowKit
set_option maxRecDepth 100000
theorem N4 {x:Int}:∀ {xs:List Int} {k:Nat},k<=xs.length->(∀ i y,i<k->xs[i]?=some y->y<x)->(∀ y,xs[k]?=some y->x<y)->Df x xs=xs.take k++x :: xs.drop k
 | [],k,hk,_,_=>by simp at hk;subst hk;rfl
 | y :: ys,0,_,_,h2=>by
  have:=h2 y rfl
  simp only [Df,gBq,gAs,gBc]
  rw [if_neg (by omega),if_neg (by omega)]
 | y :: ys,k+1,hk,h1,h2=>by
  have:=h1 0 y (by omega) rfl
  simp only [Df,gBp,gAr,gAm]
  rw [if_pos this,N4 (by simpa using hk) (fun i z hi hz=>h1 (i+1) z (by omega) hz) (fun z hz=>h2 z hz)]
theorem Ku {x:Int}:∀ {xs:List Int} {k:Nat},(∀ i y,i<k->xs[i]?=some y->y<x)->xs[k]?=some x->Df x xs=xs
 | [],k,_,h=>by simp at h
 | y :: ys,0,_,h=>by simp at h;simp [Df,h]
 | y :: ys,k+1,h1,h=>by
  have:=h1 0 y (by omega) rfl
  simp only [Df]
  rw [if_pos this,Ku (fun i z hi hz=>h1 (i+1) z (by omega) hz) h]

theorem Ja (xs:List Int) (x:Int) (hn:xs.length<=100000000):FC Tryz.prog 97 [Ap xs,.i x] [] (fun r o=>o=[]/\r=Ap (Df x xs)):=by
 refine A7 Tryz.func97 rfl (by rw [Tryz.ntmps97];simp) ?_
 rw [Tryz.ntmps97]
 simp only [B4,Ap]
 (refine ai ?_;(repeat clear hK K);repeat refine kq fun K hK=>?_)
 refine Ab (fun k:Nat=>{ tm:=[(0,.a (.c (.t 1 (Ac xs)))),(1,.i x),(5,.i k)],hp:=[],n:=48,pin:=0 }) (fun k=>k<=xs.length/\∀ i y,i<k->xs[i]?=some y->y<x) (fun k=>xs.length - k) 0 ?_ ?_ ?_
 ·exact ⟨by omega,by intro i y hi;omega⟩
 ·exact W5
 rintro k ⟨hk,he⟩ K hK
 have fin:∀ y,(∀ z,xs[k]?=some z->x<z)->y=Ac (xs.take k++[x]++xs.drop k)->y=Ac (Df x xs):=by
  intro y h1 h2
  rw [h2,N4 hk he h1];simp
 have hlen:(xs.take k++[x]++xs.drop k).length=k+1+(xs.length - k):=by simp;omega
 have hlen2:(xs.take k).length=k:=by simp;omega
 have hlen3:(xs.take k++[x]).length=k+1:=by simp;omega
 by_cases hlt:k<xs.length
 rotate_left
 ·have hl1:=Yq hlt
  (refine aj (an @hl1 @A2) ?_;repeat refine kq fun K hK=>?_)
  refine W3 ?_
  (refine VZ ?_;repeat clear hK K)
  (refine aj (an @hl1 @A2) ?_;repeat refine kq fun K hK=>?_)
  refine W3 ?_
  (refine aj (an @gBj.{0} (an @gBi.{0} (an @gBp.{0} (an @gBq.{0} (an @gAs.{0} (an @gAS.{0} (an @gAK.{0} (an @gAI.{0} (an @A2 (an @Bf (an @CC (an @Dz (an @A4 (an @CL (an @BG (an @D8 (an @BF (an @CB (an (gBy hk) (an (gE7 (gBt hlen2)) (gE7 (gBt hlen3)))))))))))))))))))))) ?_;(repeat clear hK K);repeat refine kq fun K hK=>?_)
  ((try refine Ak ?_);(try simp only [Ad,Ay]);refine AB (B6 (r:=⟨3,1,true,A9 (xs.take k++[x]++xs.drop k)⟩) 4 (Ac (xs.take k++[x]++xs.drop k)) rfl (ES _) (show 0<(1:Nat) by omega)) ?_;refine AB (A8 [] rfl rfl) ?_;simp only [ST.frz,A0.frz,AV.frz,C.frz,gBu,gBj,gBi,go_sem,A2,hlen,gBu,Bf,gE7 (gBt hlen)];(try simp only [Yn,go_sem]);((try refine Ak ?_);(try refine Aa ?_);(try simp only [Ad,Ay]);refine AN (by first | exact .inl rfl | exact .inr rfl) rfl ?_;simp only [Vm,Cq,Ck,Cx,Tryz.results97,go_sem,true_and,and_true,A2,hlen,gBu,Bf,gE7 (gBt hlen)]))
  rw [fin _ (fun z hz=>by rw [gAB (by omega)] at hz;cases hz) rfl]
 have hl1:=Yp hlt
 (refine aj (an @hl1 (an @A2 (Al (gE1 hlt)))) ?_;(repeat clear hK K);repeat refine kq fun K hK=>?_)
 (refine Ah ?_;intro X Y hX hY;simp only [go_sem])
 refine ⟨fun h=>hX ?_,fun h=>hY ?_⟩
 ·clear hX hY X Y
  (refine ai ?_;(repeat clear hK K);repeat refine kq fun K hK=>?_)
  refine W4 ?_
  refine hK _ (k+1) ⟨by omega,fun i y hi hy=>?_⟩ (by omega) ?_
  rotate_left
  ·exact W5
  by_cases e:i=k
  ·subst e;rw [gE1 hlt] at hy;cases hy;simpa using h
  exact he i y (by omega) hy
 have hle:x<=xs[k]:=by simpa using h
 clear hX hY X Y
 (refine VZ ?_;repeat clear hK K)
 (refine aj (an @hl1 (an @A2 (Al (gE1 hlt)))) ?_;(repeat clear hK K);repeat refine kq fun K hK=>?_)
 (refine Ah ?_;intro X Y hX hY;simp only [go_sem])
 refine ⟨fun h=>hX ?_,fun h=>hY ?_⟩
 ·clear hX hY X Y
  (refine ai ?_;(repeat clear hK K);repeat refine kq fun K hK=>?_)
  refine W8 Tryz.results97 ?_
  rw [Ku he (by rw [gE1 hlt];simpa using h)]
 have hne:x<xs[k]:=by simp at h;omega
 clear hX hY X Y
 (refine aj (an @gBj.{0} (an @gBi.{0} (an @gBp.{0} (an @gBq.{0} (an @gAs.{0} (an @gAS.{0} (an @gAK.{0} (an @gAI.{0} (an @A2 (an @Bf (an @CC (an @Dz (an @A4 (an @CL (an @BG (an @D8 (an @BF (an @CB (an (gBy hk) (an (gE7 (gBt hlen2)) (gE7 (gBt hlen3)))))))))))))))))))))) ?_;(repeat clear hK K);repeat refine kq fun K hK=>?_)
 ((try refine Ak ?_);(try simp only [Ad,Ay]);refine AB (B6 (r:=⟨3,1,true,A9 (xs.take k++[x]++xs.drop k)⟩) 4 (Ac (xs.take k++[x]++xs.drop k)) rfl (ES _) (show 0<(1:Nat) by omega)) ?_;refine AB (A8 [] rfl rfl) ?_;simp only [ST.frz,A0.frz,AV.frz,C.frz,gBu,gBj,gBi,go_sem,A2,hlen,gBu,Bf,gE7 (gBt hlen)];(try simp only [Yn,go_sem]);((try refine Ak ?_);(try refine Aa ?_);(try simp only [Ad,Ay]);refine AN (by first | exact .inl rfl | exact .inr rfl) rfl ?_;simp only [Vm,Cq,Ck,Cx,Tryz.results97,go_sem,true_and,and_true,A2,hlen,gBu,Bf,gE7 (gBt hlen)]))
 rw [fin _ (fun z hz=>by rw [gE1 hlt] at hz;cases hz;exact hne) rfl]

attribute [local go_sem] lga C.pl C.one
def WC (R:List (List Ar)) (F:List Nat) (e:Int) (acc:List Int):List Int:=F.foldl (fun acc s=>(R.getD s []).foldl (fun acc a=>if a.1=e then Df a.2 acc else acc) acc) acc
def IA (r:List Ar) (e:Int) (acc:List Int):List Int:=r.foldl (fun acc a=>if a.1=e then Df a.2 acc else acc) acc
theorem N5 (r:List Ar) (e:Int) (acc:List Int) (a:Ar):IA (r++[a]) e acc=if a.1=e then Df a.2 (IA r e acc) else IA r e acc:=by unfold IA;rw [gAv];rfl
theorem Pg (R:List (List Ar)) (F:List Nat) (e:Int) (acc:List Int) (s:Nat):WC R (F++[s]) e acc=IA (R.getD s []) e (WC R F e acc):=by unfold WC;rw [gAv];rfl
theorem Kv {x:Int} {e:Int}:∀ (r:List Ar) (acc:List Int),x∈IA r e acc↔x∈acc\/∃ a∈r,a.1=e/\a.2=x:=by
 intro r
 induction r with
 | nil=>intro acc;simp [IA]
 | cons a r ih=>
  intro acc
  show x∈IA r e (if a.1=e then Df a.2 acc else acc)↔_
  rw [ih]
  simp only [gB2,exists_eq_or_imp]
  split
  rotate_left
  ·rename_i h
   constructor
   ·rintro (h1 | h1)
    ·exact .inl h1
    exact .inr (.inr h1)
   rintro (h1 | ⟨h2,_⟩ | h1)
   ·exact .inl h1
   ·exact absurd h2 h
   exact .inr h1
  rename_i h
  rw [Cv]
  constructor
  rotate_left
  ·rintro (h1 | ⟨_,rfl⟩ | h1)
   ·exact .inl (.inr h1)
   ·exact .inl (.inl rfl)
   exact .inr h1
  rintro ((rfl | h1) | h1)
  ·exact .inr (.inl ⟨h,rfl⟩)
  ·exact .inl h1
  exact .inr (.inr h1)
theorem N6 {R:List (List Ar)} {x e:Int}:∀ (F:List Nat) (acc:List Int),x∈WC R F e acc↔x∈acc\/∃ s∈F,∃ a∈R.getD s [],a.1=e/\a.2=x:=by
 intro F
 induction F with
 | nil=>intro acc;simp [WC]
 | cons s F ih=>
  intro acc
  show x∈WC R F e (IA (R.getD s []) e acc)↔_
  rw [ih,Kv]
  simp only [gB2,exists_eq_or_imp]
  rw [or_assoc]
theorem Kw {e:Int}:∀ (r:List Ar) (acc:List Int),W9 acc->W9 (IA r e acc):=by
 intro r
 induction r with
 | nil=>intro acc h;exact h
 | cons a r ih=>
  intro acc h
  show W9 (IA r e (if a.1=e then Df a.2 acc else acc))
  split
  ·exact ih _ (DN h)
  exact ih _ h
theorem N7 {R:List (List Ar)} {e:Int}:∀ (F:List Nat) (acc:List Int),W9 acc->W9 (WC R F e acc):=by
 intro F
 induction F with
 | nil=>intro acc h;exact h
 | cons s F ih=>intro acc h;exact ih _ (Kw _ _ h)
theorem E7 {l:List Int} {n:Nat} (h:W9 l) (hb:∀ x∈l,0<=x/\x<(n:Int)):l.length<=n:=by
 have h1:(l.map Int.toNat).Nodup:=by
  unfold W9 at h
  rw [List.Nodup,List.pairwise_map]
  refine h.imp_of_mem fun {a b} ha hb2 hab e=>?_
  have:=hb a ha
  have:=hb b hb2
  omega
 have:=Ko n (l.map Int.toNat) h1 fun u hu=>by
  obtain ⟨x,hx,rfl⟩:=gB7.1 hu
  have:=hb x hx
  omega
 simpa using this
end Go.Proofs.YtbnabodoabimnaaGreat
