/- Lemmas. -/
import Derived.Test.YtbnabodoabimnaaGreatZk
import Derived.Test.YtbnabodoabimnaaGreatG70
import Derived.Test.YtbnabodoabimnaaGreatG45
namespace Go.Proofs.YtbnabodoabimnaaGreat
set_option linter.unusedVariables false
set_option linter.unusedSimpArgs false
open Go.RowKit
set_option maxRecDepth 100000
attribute [local go_sem] lga C.pl C.one
theorem Gk (XS:List Ar) (p:Ar->Bool) (fn:Nat) (hn:XS.length<=100000000) (hcal:B3 Tryz.prog fn=true)
  (hf:∀ x∈XS,FC Tryz.prog fn [.a (.g [.v (.int .i64 x.1),.v (.int .i64 x.2)])] [] (fun r o=>o=[]/\r=.b (p x))):
  FC Tryz.prog 99 [.a (.c (.t 2 (Aw XS))),.a (.c (.f fn []))] [] (fun r o=>o=[]/\∃ n:Int,r=.i n /\ -1<=n/\(0<=n↔XS.any p=true)):=by
 refine A7 Tryz.func99 rfl (by rw [Tryz.ntmps99];simp) ?_
 rw [Tryz.ntmps99]
 simp only [B4]
 (refine VW (an @A3 @Aq) ?_;(repeat clear hK K);unhygienic intros)
 refine Ab (fun i:Nat=>{ tm:=[(0,.a (.c (.t 2 (Aw XS)))),(1,.a (.c (.f fn []))),(7,.i XS.length),(8,.i i)],hp:=[],n:=19,pin:=0 }) (fun i=>i<=XS.length/\∀ j x,j<i->XS[j]?=some x->p x=false) (fun i=>XS.length - i) 0 ?_ ?_ ?_
 ·exact ⟨by omega,by intro i x hi;omega⟩
 ·exact W5
 rintro i ⟨hk,hno⟩ K hK
 by_cases hlt:i<XS.length
 rotate_left
 ·have hl1:=Yq hlt
  (refine VW @hl1 ?_;unhygienic intros)
  refine W3 ?_
  (refine VZ ?_;repeat clear hK K)
  (refine VV ?_;(repeat clear hK K);unhygienic intros)
  refine W6 [] Tryz.results99 ?_
  refine ⟨-1,rfl,by omega,⟨fun h=>by omega,fun h=>?_⟩⟩
  obtain ⟨x,hm,hx⟩:=gAi.1 h
  obtain ⟨j,hj⟩:=gB6.1 hm
  rw [hno j x (by have:=(List.getElem?_eq_some_iff.1 hj).1;omega) hj] at hx
  cases hx
 have hl1:=Yp hlt
 have hg:=gE1 hlt
 have hk2:=AS hlt
 (refine VW @hl1 ?_;unhygienic intros)
 refine W2 ?_
 (refine VW (an @A3 (an @Aq @hk2)) ?_;(repeat clear hK K);unhygienic intros)
 (refine Aj rfl ?_;intro K1 hK1;refine cs [] (hf XS[i] (gE6 hlt)) ?_ ?_)
 ·rintro _ _ ⟨rfl,rfl⟩;rfl
 rintro _ _ ⟨rfl,rfl⟩
 (refine W1 ?_;clear hK1 K1)
 cases hp:p XS[i] with
 | true=>
  (refine VW @hp ?_;unhygienic intros)
  refine W2 ?_
  (refine VV ?_;(repeat clear hK K);unhygienic intros)
  refine W6 [] Tryz.results99 ?_
  exact ⟨i,rfl,by omega,by simp;exact ⟨_,_,gE6 hlt,hp⟩⟩
 | false=>
  (refine VW @hp ?_;unhygienic intros)
  refine W3 ?_
  (refine VV ?_;(repeat clear hK K);unhygienic intros)
  refine W4 ?_
  refine hK _ (i+1) ⟨by omega,fun j x hj hx=>?_⟩ (by omega) ?_
  rotate_left
  ·exact W5
  by_cases e:j=i
  ·subst e;rw [hg] at hx;cases hx;exact hp
  exact hno j x (by omega) hx
theorem F3 (XS:List Ar) (p:Ar->Bool) (fn:Nat) (hn:XS.length<=100000000) (hcal:B3 Tryz.prog fn=true)
  (hf:∀ x∈XS,FC Tryz.prog fn [.a (.g [.v (.int .i64 x.1),.v (.int .i64 x.2)])] [] (fun r o=>o=[]/\r=.b (p x))):
  FC Tryz.prog 171 [.a (.c (.t 2 (Aw XS))),.a (.c (.f fn []))] [] (fun r o=>o=[]/\r=.b (XS.any p)):=by
 refine A7 Tryz.func171 rfl (by rw [Tryz.ntmps171];simp) ?_
 rw [Tryz.ntmps171]
 simp only [B4]
 (refine VV ?_;(repeat clear hK K);unhygienic intros)
 (refine Aj rfl ?_;intro K1 hK1;refine cs [] (Gk XS p fn hn hcal hf) ?_ ?_)
 ·rintro _ _ ⟨rfl,n,rfl,hn1,hn2⟩;rfl
 rintro _ _ ⟨rfl,n,rfl,hn1,hn2⟩
 (refine W1 ?_;clear hK1 K1)
 (refine VV ?_;(repeat clear hK K);unhygienic intros)
 have e:decide (n>=0)=XS.any p:=by rw [gA4,decide_eq_true_iff];exact hn2
 refine W6 [] Tryz.results171 ?_
 simp only [e]
def DG (a:Ar):Bool:=a.1 == 1
theorem N8 (a:Ar):FC Tryz.prog 172 [.a (.g [.v (.int .i64 a.1),.v (.int .i64 a.2)])] [] (fun r o=>o=[]/\r=.b (DG a)):=by
 refine A7 Tryz.func172 rfl (by rw [Tryz.ntmps172];simp) ?_
 rw [Tryz.ntmps172]
 simp only [B4]
 (refine VV ?_;(repeat clear hK K);unhygienic intros)
 ((try refine Ak ?_);(try simp only [Ad,Ay]);refine AB (A8 [] rfl rfl) ?_;(try simp only [Yn,go_sem]);((try refine Ak ?_);(try refine Aa ?_);(try simp only [Ad,Ay]);refine AN (by first | exact .inl rfl | exact .inr rfl) rfl ?_;simp only [Vm,Cq,Ck,Cx,Tryz.results172,go_sem,true_and,and_true,DG]))
theorem Pi (R:List (List Ar)) (s:Nat) (h:s<R.length) (hn:R.length<=1000000) (hr:∀ r∈R,r.length<=1000000):FC Tryz.prog 138 [Ba R,.i s] [] (fun r o=>o=[]/\r=.b (R[s].any DG)):=by
 refine A7 Tryz.func138 rfl (by rw [Tryz.ntmps138];simp) ?_
 rw [Tryz.ntmps138]
 simp only [B4,Ba]
 have hg:=gE1 h
 have hrl:=hr _ (gE6 h)
 generalize R[s]=row at *
 (refine VW (an @A6 (an (Ao hg) (an @A3 @Aq))) ?_;(repeat clear hK K);unhygienic intros)
 refine Ab (fun k:Nat=>{ tm:=[(1,.i s),(2,.a (.c (.p 0 0))),(11,.a (.c (.t 2 (Aw row)))),(12,.i row.length),(13,.i k)],hp:=[.r ⟨27,1,false,[.t 1 (AK R)]⟩],n:=32,pin:=0 }) (fun k=>k<=row.length/\∀ j a,j<k->row[j]?=some a->a.1<1) (fun k=>row.length - k) 0 ?_ ?_ ?_
 ·exact ⟨by omega,by simp⟩
 ·exact W5
 rintro k ⟨hk,hz⟩ K hK
 by_cases hlt:k<row.length
 rotate_left
 ·have d1:=Yq hlt
  (refine VW @d1 ?_;unhygienic intros)
  refine W3 ?_
  (refine VZ ?_;repeat clear hK K)
  (refine VV ?_;(repeat clear hK K);unhygienic intros)
  refine W6 [] Tryz.results138 ?_
  have:row.any DG=false:=by
   rw [List.any_eq_false]
   intro a ha
   obtain ⟨j,hj⟩:=gB6.1 ha
   have:=hz j a (by have:=(List.getElem?_eq_some_iff.1 hj).1;omega) hj
   simp [DG];omega
  rw [this]
 have d1:=Yp hlt
 have hat:=AS hlt
 (refine VW @d1 ?_;(repeat clear hK K);unhygienic intros)
 refine W2 ?_
 by_cases h1:row[k].1>=1
 rotate_left
 ·have d2:decide (row[k].1>=1)=false:=by simpa using h1
  (refine Cu (an @hat (an @A3 (an @Aq @d2))) ?_;unhygienic intros)
  refine W3 ?_
  (refine VV ?_;(repeat clear hK K);unhygienic intros)
  refine W4 ?_
  refine hK _ (k+1) ⟨by omega,fun j a hj ha=>?_⟩ (by omega) ?_
  rotate_left
  ·refine Le.trans (A8 [0] rfl rfl) ?_
   (try simp only [Yn,go_sem])
   exact W5
  by_cases e:j=k
  ·subst e;rw [gE1 hlt] at ha;cases ha;omega
  exact hz j a (by omega) ha
 have d2:decide (row[k].1>=1)=true:=by simpa using h1
 (refine Cu (an @hat (an @A3 (an @Aq @d2))) ?_;(repeat clear hK K);unhygienic intros)
 refine W2 ?_
 by_cases h2:row[k].1=1
 ·have d3:(row[k].1 == 1)=true:=by simpa using h2
  (refine VW @d3 ?_;(repeat clear hK K);unhygienic intros)
  refine W6 [] Tryz.results138 ?_
  have:row.any DG=true:=gAi.2 ⟨row[k],gE6 hlt,d3⟩
  rw [this]
 have d3:(row[k].1 == 1)=false:=by simpa using h2
 (refine VW (an @d3 (an @A6 (Ao hg))) ?_;unhygienic intros)
 (refine AY rfl rfl (by simp only [go_sem] <;> rfl) ?_;intro K1 hK1;refine (Av (ids:=[]) (F3 row DG 172 (by omega) (by kernel_rfl) (fun x _=>N8 x)) rfl rfl (by simp only [go_sem]) (by kernel_rfl) (by (simp only [gAk,go_sem]) <;> rfl) ?_).stp)
 rintro _ _ ⟨rfl,rfl⟩
 (refine W1 ?_;clear hK1 K1)
 (refine VV ?_;(repeat clear hK K);unhygienic intros)
 exact OP [] Tryz.results138
def BR (acc:List Int) (a:Ar):List Int:=if acc.getLast?=some a.1 then acc else acc++[a.1]
def Hf (r:List Ar):List Int:=r.foldl BR []
theorem Jb (acc:List Int) (a:Ar):(BR acc a).length<=acc.length+1:=by unfold BR;split <;> simp
theorem N9 {r:List Ar} {k:Nat} (h:k<r.length):Hf (r.take (k+1))=BR (Hf (r.take k)) r[k]:=by
 unfold Hf
 rw [gE8 h,gAv];rfl
theorem Pj (r:List Ar):(Hf r).length<=r.length:=by
 have:∀ (r:List Ar) (acc:List Int),(r.foldl BR acc).length<=acc.length+r.length:=by
  intro r
  induction r with
  | nil=>intro acc;simp
  | cons a r ih=>
   intro acc
   have h1:=ih (BR acc a)
   have h2:=Jb acc a
   simp only [gAw,gAJ]
   omega
 simpa [Hf] using this r []
set_option maxHeartbeats 1000000 in
theorem Jc (R:List (List Ar)) (s:Nat) (h:s<R.length) (hn:R.length<=1000000) (hr:∀ r∈R,r.length<=1000000):FC Tryz.prog 140 [Ba R,.i s] [] (fun r o=>o=[.r ⟨3,1,true,A9 (Hf R[s])⟩]/\r=.a (.c (.s 0 (Hf R[s]).length))):=by
 refine A7 Tryz.func140 rfl (by rw [Tryz.ntmps140];simp) ?_
 rw [Tryz.ntmps140]
 simp only [B4,Ba]
 have hg:=gE1 h
 have hrl:=hr _ (gE6 h)
 generalize R[s]=row at *
 (refine VW (an @A6 (an (Ao hg) (an @A3 @Aq))) ?_;(repeat clear hK K);unhygienic intros)
 refine As (BJ 5 3 1 ?_) ?_
 ·simp only [go_sem]
 refine Ab (fun k:Nat=>{ tm:=[(5,.a (.c (.s 1 (Hf (row.take k)).length))),(12,.a (.c (.t 2 (Aw row)))),(13,.i row.length),(14,.i k)],hp:=[.r ⟨27,1,false,[.t 1 (AK R)]⟩,.r ⟨3,1,true,A9 (Hf (row.take k))⟩],n:=39,pin:=0 }) (fun k=>k<=row.length) (fun k=>row.length - k) 0 ?_ ?_ ?_
 ·omega
 ·simp only [gBq,Hf,gAx,gAO]
  exact W5
 rintro k hk K hK
 by_cases hlt:k<row.length
 rotate_left
 ·have d1:=Yq hlt
  have hke:row.take k=row:=gE7 (by omega)
  rw [hke]
  (refine VW @d1 ?_;unhygienic intros)
  refine W3 ?_
  (refine VZ ?_;repeat clear hK K)
  (refine VV ?_;(repeat clear hK K);unhygienic intros)
  exact Oj [1] Tryz.results140 @A5
 have d1:=Yp hlt
 have hat:=AS hlt
 have hlen:=Pj (row.take k)
 have hst:=N9 hlt
 have htk:(row.take k).length<=k:=by simp;omega
 generalize Hf (row.take k)=acc at *
 have op:=Km acc row[k].1
 have fin:∀ b,Hf (row.take (k+1))=b->b=BR acc row[k]:=fun b h=>by rw [<- h,hst]
 clear hst
 (refine VW @d1 ?_;unhygienic intros)
 refine W2 ?_
 (refine Cu (an @hat (an @A3 @Aq)) ?_;(repeat clear hK K);unhygienic intros)
 by_cases h0:acc.length=0
 ·have d2:((acc.length:Int) == 0)=true:=by simp [h0]
  have hs:Hf (row.take (k+1))=acc++[row[k].1]:=by
   rw [fin _ rfl]
   have:acc=[]:=gAL.1 h0
   subst this;rfl
  refine Yr 13 [(0,0),(1,0),(2,0),(3,0),(4,0),(5,0),(6,0),(7,0),(8,0),(9,1),(10,0),(11,1),(12,0),(13,2)] ?_
  (refine VQ (an @d2 @A4) ?_;repeat clear hK K)
  refine W2 ?_
  (refine VW (an @A4 @op) ?_;(repeat clear hK K);unhygienic intros)
  refine W4 ?_
  refine hK _ (k+1) (by omega) (by omega) ?_
  rw [hs]
  refine Le.trans (A8 [0,4] rfl rfl) ?_
  (try simp only [Yn,go_sem])
  (try simp only [A5])
  simp only [gAI,gAJ,gAO]
  exact W5
 have d2:((acc.length:Int) == 0)=false:=by simp;intro e;simp [e] at h0
 obtain ⟨m,hm⟩:∃ m,acc.length=m+1:=⟨acc.length - 1,by omega⟩
 have e3:(acc.length:Int) - 1=(m:Int):=by omega
 have gl:acc[m]?=some acc[m]:=gE1 (by omega)
 have ge:(A9 acc)[m]?=some (.v (.int .i64 acc[m])):=At gl
 have hlast:acc.getLast?=some acc[m]:=by
  have e:acc.length - 1=m:=by omega
  rw [List.getLast?_eq_getElem?,e];exact gl
 by_cases hq:acc[m]=row[k].1
 ·have d3:(acc[m] != row[k].1)=false:=by simpa using hq
  have hs:Hf (row.take (k+1))=acc:=by
   rw [fin _ rfl,BR,if_pos (by rw [hlast,hq])]
  refine Yr 13 [(0,0),(1,0),(2,0),(3,0),(4,0),(5,0),(6,0),(7,0),(8,0),(9,1),(10,0),(11,1),(12,0),(13,2)] ?_
  (refine VQ (an @d2 (an @A4 (an @e3 (an @ge @d3)))) ?_;repeat clear hK K)
  refine W3 ?_
  (refine VV ?_;(repeat clear hK K);unhygienic intros)
  refine W4 ?_
  refine hK _ (k+1) (by omega) (by omega) ?_
  rw [hs]
  refine Le.trans (A8 [0,1] rfl rfl) ?_
  (try simp only [Yn,go_sem])
  (try simp only [A5])
  exact W5
 have d3:(acc[m] != row[k].1)=true:=by simpa using hq
 have hs:Hf (row.take (k+1))=acc++[row[k].1]:=by
  rw [fin _ rfl,BR,if_neg (by rw [hlast];simpa using hq)]
 refine Yr 13 [(0,0),(1,0),(2,0),(3,0),(4,0),(5,0),(6,0),(7,0),(8,0),(9,1),(10,0),(11,1),(12,0),(13,2)] ?_
 (refine VQ (an @d2 (an @A4 (an @e3 (an @ge @d3)))) ?_;repeat clear hK K)
 refine W2 ?_
 (refine VW (an @A4 @op) ?_;(repeat clear hK K);unhygienic intros)
 refine W4 ?_
 refine hK _ (k+1) (by omega) (by omega) ?_
 rw [hs]
 refine Le.trans (A8 [0,4] rfl rfl) ?_
 (try simp only [Yn,go_sem])
 (try simp only [A5])
 simp only [gAI,gAJ,gAO]
 exact W5
theorem Pm (R:List (List Ar)) (s:Nat) (h:s<R.length) (hn:R.length<=1000000) (hr:∀ r∈R,r.length<=1000000):FC Tryz.prog 140 [Ba R,.i s] [] (fun r o=>o=[]/\r=Ap (Hf R[s])):=
 ((Jc R s h hn hr).mono fun _ _ h=>⟨h.2,h.1⟩).frz (ES _) Nat.zero_lt_one (by rw [A2,gBB])
theorem Hg:(Ac [1]).take 1=Ac [1]:=rfl
def RB (r:List Ar):List Int × Bool:=if r.any DG then ([1],true) else if Wz r then (Hf r,true) else ([],false)
theorem Na (R:List (List Ar)) (s:Nat) (h:s<R.length) (hn:R.length<=1000000) (hr:∀ r∈R,r.length<=1000000):FC Tryz.prog 115 [Ba R,.i s] [] (fun r o=>o=[]/\r=.tup [.c (.t 1 (Ac (RB R[s]).1)),.c (.v (.bool (RB R[s]).2))]):=by
 refine A7 Tryz.func115 rfl (by rw [Tryz.ntmps115];simp) ?_
 rw [Tryz.ntmps115]
 simp only [B4,Ba]
 (refine VV ?_;(repeat clear hK K);unhygienic intros)
 refine Yt (Pi R s h hn hr) ?_
 cases ht:R[s].any DG with
 | true=>
  (refine VV ?_;unhygienic intros)
  refine W2 ?_
  (refine VV ?_;(repeat clear hK K);unhygienic intros)
  ((try refine Ak ?_);(try simp only [Ad,Ay]);refine AB (B6 (r:=⟨3,1,true,A9 [1]⟩) 1 (Ac [1]) rfl (ES _) (show 0<(1:Nat) by omega)) ?_;refine AB (A8 [] rfl rfl) ?_;simp only [ST.frz,A0.frz,AV.frz,C.frz,gBu,gBj,gBi,go_sem,Hg];(try simp only [Yn,go_sem]);((try refine Ak ?_);(try refine Aa ?_);(try simp only [Ad,Ay]);refine AN (by first | exact .inl rfl | exact .inr rfl) rfl ?_;simp only [Vm,Cq,Ck,Cx,Tryz.results115,go_sem,true_and,and_true,Hg]))
  simp only [RB,ht,if_true]
  rfl
 | false=>
  (refine VV ?_;unhygienic intros)
  refine W3 ?_
  (refine VV ?_;(repeat clear hK K);unhygienic intros)
  refine Yt (N3 R s h hn hr) ?_
  cases hs:Wz R[s] with
  | true=>
   (refine VW @gA9 ?_;unhygienic intros)
   refine W3 ?_
   (refine VV ?_;unhygienic intros)
   refine Yt (Pm R s h hn hr) ?_
   (refine VV ?_;(repeat clear hK K);unhygienic intros)
   refine W6 [] Tryz.results115 ?_
   simp only [RB,ht,hs,if_true,gA5,if_false]
  | false=>
   (refine VW @gA8 ?_;unhygienic intros)
   refine W2 ?_
   (refine VV ?_;(repeat clear hK K);unhygienic intros)
   refine As (Dj 4 1 ?_) ?_
   ·simp only [go_sem]
   refine W6 [] Tryz.results115 ?_
   simp only [RB,ht,hs,gA5,if_false];rfl
def WD (r:List Ar):List Int:=r.foldl (fun acc a=>Df a.1 acc) []
theorem Pn {r:List Ar} {k:Nat} (h:k<r.length):WD (r.take (k+1))=Df r[k].1 (WD (r.take k)):=by
 unfold WD
 rw [gE8 h,gAv];rfl
theorem Ig:∀ (r:List Ar) (acc:List Int),(r.foldl (fun acc a=>Df a.1 acc) acc).length<=acc.length+r.length:=by
 intro r
 induction r with
 | nil=>intro acc;simp
 | cons a r ih=>
  intro acc
  have h1:=ih (Df a.1 acc)
  have h2:=OR a.1 acc
  simp only [gAw,gAJ]
  omega
theorem Jd (r:List Ar):(WD r).length<=r.length:=by simpa [WD] using Ig r []
theorem Ih (x:Int):∀ (r:List Ar) (acc:List Int),x∈r.foldl (fun acc a=>Df a.1 acc) acc↔x∈acc\/∃ a∈r,a.1=x:=by
 intro r
 induction r with
 | nil=>intro acc;simp
 | cons a r ih=>
  intro acc
  rw [gAw,ih,Cv]
  simp only [gB2,exists_eq_or_imp]
  rw [or_assoc]
  constructor
  ·rintro (rfl | h | h)
   ·exact .inr (.inl rfl)
   ·exact .inl h
   exact .inr (.inr h)
  rintro (h | rfl | h)
  ·exact .inr (.inl h)
  ·exact .inl rfl
  exact .inr (.inr h)
theorem C9 {x:Int} {r:List Ar}:x∈WD r↔∃ a∈r,a.1=x:=by rw [WD,Ih];simp
theorem Hh (R:List (List Ar)) (s:Nat) (hv:C7 R=true) (h:s<R.length) (hn:R.length<=1000000) (hr:∀ r∈R,r.length<=1000000):FC Tryz.prog 96 [Ba R,.i s] [] (fun r o=>o=[]/\r=Ap (WD R[s])):=by
 refine A7 Tryz.func96 rfl (by rw [Tryz.ntmps96];simp) ?_
 rw [Tryz.ntmps96]
 simp only [B4,Ba]
 have hg:=gE1 h
 have hrl:=hr _ (gE6 h)
 have e1:decide ((s:Int)<0)=false:=gBK (by omega)
 have e2:decide ((s:Int)>=(R.length:Int))=false:=gBK (by omega)
 generalize R[s]=row at *
 (refine ai ?_;repeat refine kq fun K hK=>?_)
 refine Yt (Db R (by omega) (fun r h=>by have:=hr r h;omega)) ?_
 (refine aj (an @hv (an @gA9 (an @e1 (an @e2 @A6)))) ?_;repeat refine kq fun K hK=>?_)
 refine W3 ?_
 (refine ai ?_;(repeat clear hK K);repeat refine kq fun K hK=>?_)
 refine As (Dj 5 1 ?_) ?_
 ·simp only [go_sem]
 refine Ab (fun k:Nat=>{ tm:=[(1,.i s),(2,.a (.c (.p 0 0))),(5,.a (.c (.t 1 (Ac (WD (row.take k)))))),(6,.i k)],hp:=[.r ⟨27,1,false,[.t 1 (AK R)]⟩],n:=43,pin:=0 }) (fun k=>k<=row.length) (fun k=>row.length - k) 0 ?_ ?_ ?_
 ·omega
 ·simp only [gBq,WD,gAx,show Ac ([]:List Int)=[] from rfl]
  exact W5
 rintro k hk K hK
 by_cases hlt:k<row.length
 ·have d1:=Yp hlt
  have ha0:=DQ hlt
  have hl:=Jd (row.take k)
  have htk:(row.take k).length<=k:=by simp;omega
  (refine aj (an @d1 (an @A6 (an (Ao hg) (an @A3 @Aq)))) ?_;repeat refine kq fun K hK=>?_)
  refine W2 ?_
  (refine aj (an @ha0 (an @A6 (an (Ao hg) (an @A3 @Aq)))) ?_;repeat refine kq fun K hK=>?_)
  refine Yt (Ja (WD (row.take k)) row[k].1 (by omega)) ?_
  (refine ai ?_;(repeat clear hK K);repeat refine kq fun K hK=>?_)
  refine W4 ?_
  refine hK _ (k+1) (by omega) (by omega) ?_
  rw [Pn hlt]
  exact W5
 have d1:=Yq hlt
 have hke:row.take k=row:=gE7 (by omega)
 rw [hke]
 (refine aj (an @d1 (an @A6 (an (Ao hg) (an @A3 @Aq)))) ?_;repeat refine kq fun K hK=>?_)
 refine W3 ?_
 (refine VZ ?_;repeat clear hK K)
 (refine ai ?_;(repeat clear hK K);repeat refine kq fun K hK=>?_)
 ((try refine Ak ?_);(try simp only [Ad,Ay]);refine AB (A8 [] rfl rfl) ?_;(try simp only [Yn,go_sem]);((try refine Ak ?_);(try refine Aa ?_);(try simp only [Ad,Ay]);refine AN (by first | exact .inl rfl | exact .inr rfl) rfl ?_;simp only [Vm,Cq,Ck,Cx,Tryz.results96,go_sem,true_and,and_true,Ap]))
theorem LD (R:List (List Ar)) (s:Nat) (hv:C7 R=true) (h:s<R.length) (hn:R.length<=1000000) (hr:∀ r∈R,r.length<=1000000):FC Tryz.prog 126 [Ba R,.i s] [] (fun r o=>o=[]/\r=.b (!decide ((0:Int)∈WD R[s]))):=by
 refine A7 Tryz.func126 rfl (by rw [Tryz.ntmps126];simp) ?_
 rw [Tryz.ntmps126]
 simp only [B4,Ba]
 have hrl:=hr _ (gE6 h)
 have hil:=Jd R[s]
 have e1:decide ((s:Int)>=0)=true:=gEg (by omega)
 have e2:decide ((s:Int)<(R.length:Int))=true:=gEg (by omega)
 (refine ai ?_;repeat refine kq fun K hK=>?_)
 refine Yt (Db R (by omega) (fun r h=>by have:=hr r h;omega)) ?_
 (refine aj (an @hv (an @e1 (an @e2 @A6))) ?_;repeat refine kq fun K hK=>?_)
 (refine AY rfl rfl (by simp only [go_sem] <;> rfl) ?_;intro K1 hK1;refine (Av (ids:=[]) (Hh R s hv h hn hr) rfl rfl (by simp only [go_sem]) (by kernel_rfl) (by (simp only [gAk,go_sem]) <;> rfl) ?_).stp)
 rintro _ _ ⟨rfl,rfl⟩
 (refine W1 ?_;clear hK1 K1)
 (refine AY rfl rfl (by simp only [go_sem] <;> rfl) ?_;intro K1 hK1;refine (Av (ids:=[]) (Ha (WD R[s]) 0 (by omega)) rfl rfl (by simp only [go_sem]) (by kernel_rfl) (by (simp only [gAk,go_sem]) <;> rfl) ?_).stp)
 rintro _ _ ⟨rfl,rfl⟩
 (refine W1 ?_;clear hK1 K1)
 (refine ai ?_;(repeat clear hK K);repeat refine kq fun K hK=>?_)
 exact OP [] Tryz.results126
def Gd (r:List Ar):List Int × Bool:=if (1:Int)∈WD r then ([1],true) else if (0:Int)∈WD r then ([],false) else (WD r,true)
theorem LE (R:List (List Ar)) (s:Nat) (hv:C7 R=true) (h:s<R.length) (hn:R.length<=1000000) (hr:∀ r∈R,r.length<=1000000):FC Tryz.prog 94 [Ba R,.i s] [] (fun r o=>o=[]/\r=.tup [.c (.t 1 (Ac (Gd R[s]).1)),.c (.v (.bool (Gd R[s]).2))]):=by
 refine A7 Tryz.func94 rfl (by rw [Tryz.ntmps94];simp) ?_
 rw [Tryz.ntmps94]
 simp only [B4,Ba]
 have hrl:=hr _ (gE6 h)
 have hil:=Jd R[s]
 (refine ai ?_;repeat refine kq fun K hK=>?_)
 refine Yt (Hh R s hv h hn hr) ?_
 (refine ai ?_;(repeat clear hK K);repeat refine kq fun K hK=>?_)
 refine Yt (Ha (WD R[s]) 1 (by omega)) ?_
 by_cases h1:(1:Int)∈WD R[s]
 ·have d1:decide ((1:Int)∈WD R[s])=true:=by simpa using h1
  (refine aj @d1 ?_;repeat refine kq fun K hK=>?_)
  (refine Ah ?_;intro X Y hX hY;simp only [go_sem,d1])
  refine hX ?_
  clear hX hY X Y
  (refine ai ?_;(repeat clear hK K);repeat refine kq fun K hK=>?_)
  ((try refine Ak ?_);(try simp only [Ad,Ay]);refine AB (B6 (r:=⟨3,1,true,A9 [1]⟩) 1 (Ac [1]) rfl (ES _) (show 0<(1:Nat) by omega)) ?_;refine AB (A8 [] rfl rfl) ?_;simp only [ST.frz,A0.frz,AV.frz,C.frz,gBu,gBj,gBi,go_sem,Hg];(try simp only [Yn,go_sem]);((try refine Ak ?_);(try refine Aa ?_);(try simp only [Ad,Ay]);refine AN (by first | exact .inl rfl | exact .inr rfl) rfl ?_;simp only [Vm,Cq,Ck,Cx,Tryz.results94,go_sem,true_and,and_true,Hg]))
  simp only [Gd,if_pos h1]
  rfl
 have d1:decide ((1:Int)∈WD R[s])=false:=by simpa using h1
 (refine aj @d1 ?_;repeat refine kq fun K hK=>?_)
 (refine Ah ?_;intro X Y hX hY;simp only [go_sem,d1])
 refine hY ?_
 clear hX hY X Y
 (refine ai ?_;(repeat clear hK K);repeat refine kq fun K hK=>?_)
 refine Yt (LD R s hv h hn hr) ?_
 by_cases h0:(0:Int)∈WD R[s]
 rotate_left
 ·have d0:decide ((0:Int)∈WD R[s])=false:=by simpa using h0
  (refine aj (an @d0 (an @gA9 @gA8)) ?_;repeat refine kq fun K hK=>?_)
  refine W3 ?_
  (refine ai ?_;(repeat clear hK K);repeat refine kq fun K hK=>?_)
  refine W6 [] Tryz.results94 ?_
  simp only [Gd,if_neg h1,if_neg h0]
 have d0:decide ((0:Int)∈WD R[s])=true:=by simpa using h0
 (refine aj (an @d0 (an @gA9 @gA8)) ?_;repeat refine kq fun K hK=>?_)
 refine W2 ?_
 (refine ai ?_;(repeat clear hK K);repeat refine kq fun K hK=>?_)
 refine As (Dj 4 1 ?_) ?_
 ·simp only [go_sem]
 refine W6 [] Tryz.results94 ?_
 simp only [Gd,if_neg h1,if_pos h0];rfl
section
variable {α β : Type} [DecidableEq α] [DecidableEq β]
def WE (f:Nat->α):Nat->List Int × Nat
 | 0=>([],0)
 | k+1=>match (List.range k).find? (fun t=>decide (f t=f k)) with
  | some t=>((WE f k).1++[(WE f k).1.getD t 0],(WE f k).2)
  | none=>((WE f k).1++[((WE f k).2:Int)],(WE f k).2+1)
theorem EC {f:Nat->α} {k t:Nat} (h:(List.range k).find? (fun t=>decide (f t=f k))=some t):WE f (k+1)=((WE f k).1++[(WE f k).1.getD t 0],(WE f k).2):=by rw [WE,h]
theorem ED {f:Nat->α} {k:Nat} (h:(List.range k).find? (fun t=>decide (f t=f k))=none):WE f (k+1)=((WE f k).1++[((WE f k).2:Int)],(WE f k).2+1):=by rw [WE,h]
theorem Ii {f:Nat->α} {k t:Nat} (ht:t<k) (h:f t=f k) (hn:∀ u,u<t->f u ≠ f k):(List.range k).find? (fun t=>decide (f t=f k))=some t:=by
 rw [List.find?_range_eq_some]
 exact ⟨by simpa using h,by simpa using ht,fun j hj=>by simpa using hn j hj⟩
theorem Ij {f:Nat->α} {k:Nat} (hn:∀ u,u<k->f u ≠ f k):(List.range k).find? (fun t=>decide (f t=f k))=none:=by
 rw [List.find?_range_eq_none]
 exact fun j hj=>by simpa using hn j hj
theorem EE (f:Nat->α) (k:Nat):(∃ t,t<k/\f t=f k/\(∀ u,u<t->f u ≠ f k)/\WE f (k+1)=((WE f k).1++[(WE f k).1.getD t 0],(WE f k).2))\/((∀ u,u<k->f u ≠ f k)/\WE f (k+1)=((WE f k).1++[((WE f k).2:Int)],(WE f k).2+1)):=by
 cases h:(List.range k).find? (fun t=>decide (f t=f k)) with
 | some t=>
  have h2:=List.find?_range_eq_some.1 h
  exact .inl ⟨t,by simpa using h2.2.1,by simpa using h2.1,fun u hu=>by simpa using h2.2.2 u hu,EC h⟩
 | none=>
  have h2:=List.find?_range_eq_none.1 h
  exact .inr ⟨fun u hu=>by simpa using h2 u hu,ED h⟩
structure NmOk (f:Nat->α) (k:Nat) (p:List Int × Nat):Prop where
 len:p.1.length=k
 eq:∀ s t,s<k->t<k->(p.1.getD s 0=p.1.getD t 0↔f s=f t)
 rng:∀ s,s<k->0<=p.1.getD s 0/\p.1.getD s 0<(p.2:Int)
 cnt:p.2<=k
theorem Bs {l:List Int} {x:Int} {s:Nat} (h:s<l.length):(l++[x]).getD s 0=l.getD s 0:=by
 rw [gE2,gEa h,<- gE2]
theorem Cg {l:List Int} {x:Int} {s:Nat} (h:s=l.length):(l++[x]).getD s 0=x:=by
 subst h
 rw [gE2,gEb (gBu _),gBC];rfl
theorem BK (f:Nat->α) (k:Nat):NmOk f k (WE f k):=by
 induction k with
 | zero=>exact ⟨rfl,fun s t h=>by omega,fun s h=>by omega,gBu _⟩
 | succ k ih=>
  have hl:=ih.len
  rcases EE f k with ⟨t,h1,h2,h3,h4⟩ | ⟨h3,h4⟩
  ·rw [h4]
   generalize WE f k=p at *
   have g1:∀ s,s<k->(p.1++[p.1.getD t 0]).getD s 0=p.1.getD s 0:=fun s hs=>Bs (by omega)
   have g2:(p.1++[p.1.getD t 0]).getD k 0=p.1.getD t 0:=Cg hl.symm
   refine ⟨by simp [hl],fun s u hs hu=>?_,fun s hs=>?_,by have:=ih.cnt;simp only;omega⟩
   rotate_left
   ·simp only
    rcases gBx s k with a | a
    ·rw [g1 s a];exact ih.rng s a
    have:s=k:=by omega
    subst this;rw [g2];exact ih.rng t h1
   simp only
   rcases gBx s k with a | a <;> rcases gBx u k with b | b
   ·rw [g1 s a,g1 u b];exact ih.eq s u a b
   ·have:u=k:=by omega
    subst this
    rw [g1 s a,g2,ih.eq s t a h1,h2]
   ·have:s=k:=by omega
    subst this
    rw [g1 u b,g2,ih.eq t u h1 b,h2]
   have e1:s=k:=by omega
   have e2:u=k:=by omega
   subst e1;subst e2;simp
  rw [h4]
  generalize WE f k=p at *
  have g1:∀ s,s<k->(p.1++[(p.2:Int)]).getD s 0=p.1.getD s 0:=fun s hs=>Bs (by omega)
  have g2:(p.1++[(p.2:Int)]).getD k 0=p.2:=Cg hl.symm
  refine ⟨by simp [hl],fun s u hs hu=>?_,fun s hs=>?_,by have:=ih.cnt;simp only;omega⟩
  rotate_left
  ·simp only
   rcases gBx s k with a | a
   ·rw [g1 s a];have:=ih.rng s a;omega
   have:s=k:=by omega
   subst this;rw [g2];omega
  simp only
  rcases gBx s k with a | a <;> rcases gBx u k with b | b
  rotate_left 3
  ·have e1:s=k:=by omega
   have e2:u=k:=by omega
   subst e1;subst e2;simp
  ·rw [g1 s a,g1 u b];exact ih.eq s u a b
  ·have:u=k:=by omega
   subst this
   rw [g1 s a,g2]
   have:=ih.rng s a
   exact ⟨fun e=>by omega,fun e=>absurd e (h3 s a)⟩
  have:s=k:=by omega
  subst this
  rw [g1 u b,g2]
  have:=ih.rng u b
  exact ⟨fun e=>by omega,fun e=>absurd e.symm (h3 u b)⟩
theorem Nb {f:Nat->α} {g:Nat->β}:∀ k,(∀ s t,s<k->t<k->(f s=f t↔g s=g t))->WE f k=WE g k:=by
 intro k
 induction k with
 | zero=>intro _;rfl
 | succ k ih=>
  intro h
  have ih2:=ih fun s t hs ht=>h s t (by omega) (by omega)
  rcases EE f k with ⟨t,h1,h2,h3,h4⟩ | ⟨h3,h4⟩
  ·rw [h4,EC (f:=g) (Ii h1 ((h t k (by omega) (by omega)).1 h2) fun u hu e=>h3 u hu ((h u k (by omega) (by omega)).2 e)),ih2]
  rw [h4,ED (f:=g) (Ij fun u hu e=>h3 u hu ((h u k (by omega) (by omega)).2 e)),ih2]
theorem Kx (f:Nat->α) (n:Nat):WE (fun s=>(WE f n).1.getD s 0) n=WE f n:=Nb n fun s t hs ht=>(BK f n).eq s t hs ht
def Po (f:Nat->α) (k:Nat):Bool:=(List.range k).all fun t=>!decide (f t=f k)
theorem DW {f:Nat->α} {k:Nat}:Po f k=true↔∀ t,t<k->f t ≠ f k:=by simp [Po]
theorem Ky (f:Nat->α) (k:Nat):(WE f k).2=(List.range k).countP (Po f):=by
 induction k with
 | zero=>rfl
 | succ k ih=>
  rw [List.range_succ,List.countP_append,<- ih]
  rcases EE f k with ⟨t,h1,h2,h3,h4⟩ | ⟨h3,h4⟩
  rotate_left
  ·have:Po f k=true:=DW.2 h3
   rw [h4];simp [this]
  have:Po f k=false:=by
   rw [<- Bool.not_eq_true,DW]
   exact fun h=>h t h1 h2
  rw [h4];simp [this]
theorem EF {γ:Type} {p q:γ->Bool}:∀ {l:List γ},(∀ x∈l,p x=true->q x=true)->l.countP p=l.countP q->∀ x∈l,q x=true->p x=true
 | [],_,_,x,hx,_=>by simp at hx
 | a :: r,h,e,x,hx,hq=>by
  have hle:=List.countP_mono_left (p:=p) (q:=q) (l:=r) fun y hy=>h y (gEf _ hy)
  rw [gAo,gAo] at e
  have ha:=h a (by simp)
  rcases gB2.1 hx with rfl | hx
  ·cases hp:p x with
   | true=>rfl
   | false=>rw [hp,hq] at e;simp at e;omega
  ·refine EF (fun y hy=>h y (gEf _ hy)) ?_ x hx hq
   cases hp:p a with
   | true=>rw [hp,ha hp] at e;simp at e;exact e
   | false=>
    rw [hp] at e
    cases hqa:q a with
    | true=>rw [hqa] at e;simp at e;omega
    | false=>rw [hqa] at e;simpa using e
theorem Kz {f:Nat->α} (s:Nat):∃ t,t<=s/\f t=f s/\Po f t=true:=by
 induction s using Nat.strongRecOn with
 | _ s ih=>
  cases h:Po f s with
  | true=>exact ⟨s,gBu _,rfl,h⟩
  | false=>
   have:¬ ∀ t,t<s->f t ≠ f s:=fun q=>by rw [DW.2 q] at h;cases h
   obtain ⟨t,ht,e⟩:∃ t,t<s/\f t=f s:=Classical.byContradiction fun q=>this fun t ht e=>q ⟨t,ht,e⟩
   obtain ⟨u,h1,h2,h3⟩:=ih t ht
   exact ⟨u,by omega,h2.trans e,h3⟩
theorem Nc {f:Nat->α} {g:Nat->β} {n:Nat} (h:∀ s t,s<n->t<n->g s=g t->f s=f t):(WE f n).2<=(WE g n).2/\((WE f n).2=(WE g n).2->WE f n=WE g n):=by
 have hsub:∀ k∈List.range n,Po f k=true->Po g k=true:=fun k hk hf=>by
  rw [gBa] at hk
  rw [DW] at hf ⊢
  exact fun t ht e=>hf t ht (h t k (by omega) hk e)
 rw [Ky,Ky]
 refine ⟨List.countP_mono_left hsub,fun e=>Nb n fun s t hs ht=>⟨fun hf=>?_,h s t hs ht⟩⟩
 have hback:=EF hsub e
 obtain ⟨s1,a1,a2,a3⟩:=Kz (f:=g) s
 obtain ⟨t1,b1,b2,b3⟩:=Kz (f:=g) t
 have c1:=DW.1 (hback s1 (gBa.2 (by omega)) a3)
 have c2:=DW.1 (hback t1 (gBa.2 (by omega)) b3)
 have d1:f s1=f s:=h s1 s (by omega) hs a2
 have d2:f t1=f t:=h t1 t (by omega) ht b2
 have e3:f s1=f t1:=by rw [d1,d2,hf]
 have e4:s1=t1:=by
  rcases Nat.lt_trichotomy s1 t1 with q | q | q
  ·exact absurd e3 (c2 s1 q)
  ·exact q
  exact absurd e3.symm (c1 t1 q)
 rw [<- a2,<- b2,e4]
end
def WF (S:List (List Ar)) (c:List Int) (s:Nat):List Ar:=CN ((S.getD s []).map fun a=>(a.1,c.getD a.2.toNat 0))
theorem G1 {S:List (List Ar)} {c:List Int} {s:Nat} {x:Ar}:x∈WF S c s↔∃ a∈S.getD s [],x=(a.1,c.getD a.2.toNat 0):=by
 unfold WF
 rw [Ce,gB7]
 exact ⟨fun ⟨a,h1,h2⟩=>⟨a,h1,h2.symm⟩,fun ⟨a,h1,h2⟩=>⟨a,h1,h2.symm⟩⟩
def Up (c:List Int) (row:List Ar) (e x:Int):Bool:=row.any fun a=>a.1 == e && c.getD a.2.toNat 0 == x
def SW (c:List Int) (a b:List Ar):Bool:=a.all fun x=>Up c b x.1 (c.getD x.2.toNat 0)
theorem Nd {S:List (List Ar)} {c:List Int} {s t:Nat}:WF S c s=WF S c t↔SW c (S.getD s []) (S.getD t [])=true/\SW c (S.getD t []) (S.getD s [])=true:=by
 have key:∀ s t,SW c (S.getD s []) (S.getD t [])=true↔∀ x∈WF S c s,x∈WF S c t:=by
  intro s t
  simp only [SW,Up,gAg,gAi,gA1,beq_iff_eq]
  constructor
  ·intro h x hx
   obtain ⟨a,ha,rfl⟩:=G1.1 hx
   obtain ⟨b,hb,h1,h2⟩:=h a ha
   exact G1.2 ⟨b,hb,by rw [h1,h2]⟩
  intro h a ha
  obtain ⟨b,hb,e⟩:=G1.1 (h _ (G1.2 ⟨a,ha,rfl⟩))
  injection e with e1 e2
  exact ⟨b,hb,e1.symm,e2.symm⟩
 rw [key,key]
 constructor
 ·intro h;rw [h];exact ⟨fun _ h=>h,fun _ h=>h⟩
 rintro ⟨h1,h2⟩
 exact DR (BT _) (BT _) fun x=>⟨h1 x,h2 x⟩
def WG (S:List (List Ar)) (c:List Int) (s:Nat):Int × List Ar:=(c.getD s 0,WF S c s)
def WH (S:List (List Ar)) (c:List Int):List Int:=(WE (WG S c) S.length).1
def WI (S:List (List Ar)) (c:List Int):Nat->List Int
 | 0=>c
 | k+1=>WH S (WI S c k)
def FxS (S:List (List Ar)) (c d:List Int):Prop:=∃ k,d=WI S c k/\WH S d=d
theorem FxS.stay {S:List (List Ar)} {c:List Int} {k j:Nat} (h:WH S (WI S c k)=WI S c k) (hj:k<=j):WI S c j=WI S c k:=by
 induction j with
 | zero=>
  have:k=0:=by omega
  subst this;rfl
 | succ j ih=>
  by_cases e:k=j+1
  ·subst e;rfl
  rw [WI,ih (by omega),h]
theorem FxS.uniq {S:List (List Ar)} {c d e:List Int} (h1:FxS S c d) (h2:FxS S c e):d=e:=by
 obtain ⟨k,rfl,hk⟩:=h1
 obtain ⟨j,rfl,hj⟩:=h2
 rcases Nat.le_total k j with h | h
 ·exact (FxS.stay hk h).symm
 exact FxS.stay hj h
def Nrm (n:Nat) (c:List Int):Prop:=(WE (fun s=>c.getD s 0) n).1=c
theorem Nrm.len {n:Nat} {c:List Int} (h:Nrm n c):c.length=n:=by rw [<- h];exact (BK _ n).len
theorem Nrm.rng {n:Nat} {c:List Int} (h:Nrm n c):∀ x∈c,0<=x/\x<(n:Int):=fun x hx=>by
 obtain ⟨i,hi,rfl⟩:=gAG hx
 have hl:=h.len
 have h1:=(BK (fun s=>c.getD s 0) n).rng i (by omega)
 have h2:=(BK (fun s=>c.getD s 0) n).cnt
 unfold Nrm at h
 rw [h,gE2,gE1 hi,gBF] at h1
 omega
def WJ (acc:List Int) (r:List Ar):List Int:=r.foldl (fun acc a=>Df a.1 acc) acc
def WK (R:List (List Ar)) (k:Nat):List Int:=(R.take k).foldl WJ [0]
theorem Pp {R:List (List Ar)} {k:Nat} (h:k<R.length):WK R (k+1)=WJ (WK R k) R[k]:=by
 unfold WK
 rw [gE8 h,gAv];rfl
theorem Hi {x:Int}:∀ (r:List Ar) (acc:List Int),x∈WJ acc r↔x∈acc\/∃ a∈r,a.1=x
 | [],acc=>by simp [WJ]
 | a :: r,acc=>by
  show x∈WJ (Df a.1 acc) r↔_
  rw [Hi r,Cv]
  simp only [gB2,exists_eq_or_imp]
  constructor
  ·rintro ((rfl | h) | h)
   ·exact .inr (.inl rfl)
   ·exact .inl h
   ·exact .inr (.inr h)
  ·rintro (h | h | h)
   ·exact .inl (.inr h)
   ·exact .inl (.inl h.symm)
   ·exact .inr h
theorem Nf:∀ (r:List Ar) (acc:List Int),W9 acc->W9 (WJ acc r)
 | [],_,h=>h
 | _ :: r,_,h=>Nf r _ (DN h)
theorem Qh {R:List (List Ar)} (hb:∀ r∈R,∀ a∈r,0<=a.1/\a.1<=1025) (k:Nat):k<=R.length->W9 (WK R k)/\(∀ x∈WK R k,0<=x/\x<1026)/\(0:Int)∈WK R k/\∀ r∈R.take k,∀ a∈r,a.1∈WK R k:=by
 induction k with
 | zero=>intro _;exact ⟨by simp [WK,W9],by simp [WK],by simp [WK],by simp⟩
 | succ k ih=>
  intro hk
  obtain ⟨h1,h2,h3,h4⟩:=ih (by omega)
  have hkl:k<R.length:=hk
  rw [Pp hkl]
  refine ⟨Nf _ _ h1,fun x hx=>?_,(Hi _ _).2 (.inl h3),fun r hr a ha=>?_⟩
  ·rcases (Hi _ _).1 hx with h | ⟨a,ha,rfl⟩
   ·exact h2 x h
   have:=hb _ (gE6 hkl) a ha;omega
  rw [Hi]
  rw [gE8 hkl] at hr
  rcases gB0.1 hr with h | h
  ·exact .inl (h4 r h a ha)
  simp at h;subst h;exact .inr ⟨a,ha,rfl⟩
noncomputable def WL (R:List (List Ar)) (s:Nat):List Nat:=DV R.length (fun u=>@decide (Rc (Wi true R) s u) (Classical.propDecidable _))
theorem CZ {R:List (List Ar)} {s u:Nat}:u∈WL R s↔u<R.length/\Rc (Wi true R) s u:=by
 unfold WL
 rw [BI]
 simp
noncomputable def WM (R:List (List Ar)) (s:Nat) (e:Int):List Int:=if e=0 then (WL R s).map Int.ofNat else (DV R.length (fun u=>decide (u∈tg R (WL R s) e))).map Int.ofNat
theorem Je {R:List (List Ar)} (hlo:BZ R=true) {s:Nat} (hs:s<R.length) {e x:Int}:x∈WM R s e↔(e=0/\∃ u:Nat,x=(u:Int)/\Rc (Wi true R) s u)\/(e ≠ 0/\∃ t,Rc (Wi true R) s t/\∃ a∈R.getD t [],a.1=e/\a.2=x):=by
 have hE:=Dq true hlo
 unfold WM
 by_cases e0:e=0
 ·rw [if_pos e0,gB7]
  constructor
  ·rintro ⟨u,hu,rfl⟩
   exact .inl ⟨e0,u,rfl,(CZ.1 hu).2⟩
  rintro (⟨_,u,rfl,hu⟩ | ⟨h,_⟩)
  ·exact ⟨u,CZ.2 ⟨hu.lt hs hE,hu⟩,rfl⟩
  exact absurd e0 h
 rw [if_neg e0,gB7]
 constructor
 ·rintro ⟨u,hu,rfl⟩
  rw [BI,decide_eq_true_iff,Yx] at hu
  obtain ⟨_,t,ht,h2⟩:=hu
  obtain ⟨a,ha,h3,h4⟩:=DF.1 h2
  have htl:=(CZ.1 ht).1
  have hb:0<=a.2:=by
   rw [gE2,gE1 htl,gBF] at ha
   exact ((gE4 hlo).2.2.2 _ (gE6 htl) a ha).2.2.1
  exact .inr ⟨e0,t,(CZ.1 ht).2,a,ha,h3,by simp only [Int.ofNat_eq_natCast];omega⟩
 rintro (⟨h,_⟩ | ⟨_,t,ht,a,ha,h3,rfl⟩)
 ·exact absurd h e0
 have htl:=ht.lt hs hE
 have hb:=ha
 rw [gE2,gE1 htl,gBF] at hb
 have hb2:=(gE4 hlo).2.2.2 _ (gE6 htl) a hb
 refine ⟨a.2.toNat,?_,by simp only [Int.ofNat_eq_natCast];omega⟩
 rw [BI,decide_eq_true_iff,Yx]
 exact ⟨by omega,t,CZ.2 ⟨htl,ht⟩,DF.2 ⟨a,ha,h3,rfl⟩⟩
theorem Qi {R:List (List Ar)} (hlo:BZ R=true) {s:Nat} {e:Int} (hs:s<R.length):(WM R s e).length<=R.length/\∀ x∈WM R s e,0<=x/\x<(R.length:Int):=by
 have hl:∀ p:Nat->Bool,(DV R.length p).length<=R.length:=fun p=>by
  unfold DV
  exact gBv (gAM _ _) (by simp)
 refine ⟨?_,fun x hx=>?_⟩
 ·unfold WM
  split <;> rw [gAN] <;> exact hl _
 unfold WM at hx
 split at hx
 ·obtain ⟨u,hu,rfl⟩:=gB7.1 hx
  have:=(BI.1 hu).1
  simp only [Int.ofNat_eq_natCast];omega
 obtain ⟨u,hu,rfl⟩:=gB7.1 hx
 have:=(BI.1 hu).1
 simp only [Int.ofNat_eq_natCast];omega
noncomputable def WN (R:List (List Ar)) (s:Nat) (e:Int):List Ar:=(WM R s e).map fun u=>(e,u)
noncomputable def WO (R:List (List Ar)) (Ev:List Int) (s k:Nat):List Ar:=(Ev.take k).flatMap (WN R s)
noncomputable def WP (R:List (List Ar)) (Ev:List Int) (s:Nat):List Ar:=WO R Ev s Ev.length
noncomputable def WQ (R:List (List Ar)) (Ev:List Int) (k:Nat):List (List Ar):=(List.range k).map (WP R Ev)
theorem RC (R:List (List Ar)) (Ev:List Int) (k:Nat):(WQ R Ev k).length=k:=by simp [WQ]
theorem Pq {R:List (List Ar)} {Ev:List Int} {s k:Nat} (h:k<Ev.length):WO R Ev s (k+1)=WO R Ev s k++WN R s Ev[k]:=by
 unfold WO
 rw [gE8 h,List.flatMap_append]
 simp
theorem RD {R:List (List Ar)} (hlo:BZ R=true) {Ev:List Int} {s:Nat} (hs:s<R.length):∀ k,k<=Ev.length->(WO R Ev s k).length<=k*R.length:=by
 intro k
 induction k with
 | zero=>intro _;simp [WO]
 | succ k ih=>
  intro hk
  have h1:=ih (by omega)
  have h2:=(Qi hlo (e:=Ev[k]) hs).1
  rw [Pq hk,gAI,WN,gAN,Nat.succ_mul]
  omega
noncomputable def EG (R:List (List Ar)):List (List Ar):=WQ R (WK R R.length) R.length
theorem EH {R:List (List Ar)} (hv:C7 R=true) {s:Nat} (hs:s<R.length) {a:Ar}:a∈(EG R).getD s []↔(a.1=0/\∃ u:Nat,a.2=(u:Int)/\Rc (Wi true R) s u)\/(a.1 ≠ 0/\∃ t,Rc (Wi true R) s t/\a∈R.getD t []):=by
 have hlo:BZ R=true:=gEg (gE4 hv).1
 have hg:(EG R).getD s []=WP R (WK R R.length) s:=by simp [EG,WQ,gE2,hs]
 have hev:=Qh (R:=R) (fun r hr a ha=>by have:=(gE4 hlo).2.2.2 r hr a ha;omega) R.length (gBu _)
 rw [gBn] at hev
 rw [hg]
 unfold WP WO
 rw [gBn,gB5]
 constructor
 ·rintro ⟨e,he,h⟩
  obtain ⟨x,hx,rfl⟩:=gB7.1 h
  rcases (Je hlo hs).1 hx with ⟨h1,u,rfl,h2⟩ | ⟨h1,t,h2,b,hb,h3,h4⟩
  ·exact .inl ⟨h1,u,rfl,h2⟩
  refine .inr ⟨h1,t,h2,?_⟩
  have:b=(e,x):=by rcases b with ⟨p,q⟩;simp only at h3 h4;rw [h3,h4]
  rw [<- this];exact hb
 rintro (⟨h1,u,h2,h3⟩ | ⟨h1,t,h2,h3⟩)
 ·refine ⟨0,hev.2.2.1,gB7.2 ⟨(u:Int),(Je hlo hs).2 (.inl ⟨rfl,u,rfl,h3⟩),?_⟩⟩
  rcases a with ⟨p,q⟩;simp only at h1 h2 ⊢;rw [h1,h2]
 have htl:=h2.lt hs (Dq true hlo)
 have h4:=h3
 rw [gE2,gE1 htl,gBF] at h4
 exact ⟨a.1,hev.2.2.2 _ (gE6 htl) a h4,gB7.2 ⟨a.2,(Je hlo hs).2 (.inr ⟨h1,t,h2,a,h3,rfl,rfl⟩),rfl⟩⟩
theorem Jf {R:List (List Ar)} (hv:C7 R=true) (hn:R.length<=100):(EG R).length=R.length/\∀ r∈EG R,r.length<=1000000/\∀ a∈r,0<=a.2/\a.2<(R.length:Int):=by
 have hlo:BZ R=true:=gEg (gE4 hv).1
 have hl:(EG R).length=R.length:=RC _ _ _
 have hev:=Qh (R:=R) (fun r hr a ha=>by have:=(gE4 hlo).2.2.2 r hr a ha;omega) R.length (gBu _)
 have hevl:(WK R R.length).length<=1026:=E7 hev.1 (by simpa using hev.2.1)
 refine ⟨hl,fun r hr=>?_⟩
 obtain ⟨s,hs,rfl⟩:=gB7.1 hr
 rw [gBa] at hs
 have h1:=RD hlo (Ev:=WK R R.length) hs _ (gBu _)
 have h2:(WK R R.length).length*R.length<=1026*100:=gBz hevl hn
 refine ⟨by unfold WP;omega,fun a ha=>?_⟩
 unfold WP WO at ha
 obtain ⟨e,_,h⟩:=gB5.1 ha
 obtain ⟨x,hx,rfl⟩:=gB7.1 h
 exact (Qi hlo hs).2 x hx
def WR (B:List Bool) (s:Nat):Int:=if B.getD s false=B.getD 0 false then 0 else 1
def WS (B:List Bool) (n:Nat):List Int:=(List.range n).map (WR B)
theorem Hj {B:List Bool} {n s:Nat} (h:s<n):(WS B n).getD s 0=WR B s:=by simp [WS,gE2,h]
def DlC (R:List (List Ar)) (c:List Int):Prop:=∃ B,DvL R B/\FxS (EG R) (WS B R.length) c
abbrev Ed:=Nat × Nat
def WT (f:Nat->Nat) (s:Nat) (a:Ar):Option Ed:=if a.1=0/\f s ≠ f a.2.toNat then some (f s,f a.2.toNat) else none
def WU (f:Nat->Nat) (s:Nat) (row:List Ar):List Ed:=row.filterMap (WT f s)
def WV (f:Nat->Nat) (R:List (List Ar)) (k:Nat):List Ed:=(List.range k).flatMap fun s=>WU f s (R.getD s [])
theorem Ng {f:Nat->Nat} {R:List (List Ar)} {k:Nat} {e:Ed}:e∈WV f R k↔∃ s,s<k/\∃ a∈R.getD s [],a.1=0/\f s ≠ f a.2.toNat/\e=(f s,f a.2.toNat):=by
 unfold WV WU
 simp only [gB5,gBa,List.mem_filterMap]
 constructor
 rotate_left
 ·rintro ⟨s,hs,a,ha,h1,h2,rfl⟩
  exact ⟨s,hs,a,ha,by unfold WT;rw [if_pos ⟨h1,h2⟩]⟩
 rintro ⟨s,hs,a,ha,h⟩
 unfold WT at h
 split at h
 rotate_left
 ·cases h
 rename_i hc
 injection h with h
 exact ⟨s,hs,a,ha,hc.1,hc.2,h.symm⟩
def WW (E:List Ed) (c:Nat):Nat:=E.countP fun e=>e.1 == c
def WX (E:List Ed) (t:Nat):List Nat:=(E.filter fun e=>e.2 == t).map (·.1)
def WY (E:List Ed) (P:List Nat) (c:Nat):Nat:=E.countP fun e=>e.1 == c && decide (e.2∈P)
theorem Qj (E:List Ed) (P:List Nat) (c:Nat):WY E P c<=WW E c:=List.countP_mono_left fun e _ h=>by simp only [gA1] at h;exact h.1
theorem Pr {E:List Ed} {P:List Nat} {q:Nat} (h:q ∉ P) (c:Nat):WY E (P++[q]) c=WY E P c+(WX E q).countP (· == c):=by
 unfold WY WX
 rw [List.countP_map,List.countP_filter]
 induction E with
 | nil=>rfl
 | cons e r ih=>
  simp only [gAo,ih]
  by_cases h1:e.1=c
  rotate_left
  ·simp [h1]
  by_cases h2:e.2=q
  rotate_left
  ·by_cases h3:e.2∈P <;> simp [h1,h2,h3];omega
  have h3:e.2 ∉ P:=by rw [h2];exact h
  simp [h1,h2,h];omega
theorem EI {γ:Type} {p q:γ->Bool}:∀ {l:List γ},(∀ x∈l,p x=true->q x=true)->l.countP p=l.countP q->∀ x∈l,q x=true->p x=true
 | [],_,_,x,hx,_=>by simp at hx
 | a :: r,h,e,x,hx,hq=>by
  have hle:=List.countP_mono_left (p:=p) (q:=q) (l:=r) fun y hy=>h y (gEf _ hy)
  rw [gAo,gAo] at e
  have ha:=h a (by simp)
  rcases gB2.1 hx with rfl | hx
  ·cases hp:p x with
   | true=>rfl
   | false=>rw [hp,hq] at e;simp at e;omega
  ·refine EI (fun y hy=>h y (gEf _ hy)) ?_ x hx hq
   cases hp:p a with
   | true=>rw [hp,ha hp] at e;simp at e;exact e
   | false=>
    rw [hp] at e
    cases hqa:q a with
    | true=>rw [hqa] at e;simp at e;omega
    | false=>rw [hqa] at e;simpa using e
theorem Ps {E:List Ed} {P:List Nat} {c:Nat} (h:WY E P c=WW E c):∀ e∈E,e.1=c->e.2∈P:=by
 intro e he h1
 have:=EI (p:=fun e:Ed=>e.1 == c && decide (e.2∈P)) (q:=fun e:Ed=>e.1 == c) (l:=E) (fun x _ hx=>by simp only [gA1] at hx;exact hx.1) h e he (by simpa using h1)
 simp only [gA1,gBM] at this
 exact this.2
structure Kh (E:List Ed) (n:Nat) (f:Nat->Nat) (i m:Nat) (Q:List Nat) (W:List Int):Prop where
 len:W.length=n
 wt:∀ c,c<n->W[c]?=some (((WW E c:Nat):Int) - (WY E (Q.take i) c:Nat) - (((WX E (Q.getD i 0)).take m).countP (· == c):Nat))
 nd:Q.Nodup
 rep:∀ c∈Q,c<n/\f c=c
 zero:∀ c,c<n->f c=c->(c∈Q↔W[c]?=some 0)
 topo:∀ (j c:Nat),Q[j]?=some c->∀ e∈E,e.1=c->∃ j',j'<j/\Q[j']?=some e.2
section
variable {E : List Ed} {n : Nat} {f : Nat -> Nat} {i m : Nat} {Q : List Nat} {W : List Int}
theorem Kh.step (h:Kh E n f i m Q W) (hi:i<Q.length) (hE:∀ e∈E,e.1<n/\f e.1=e.1) {c:Nat} (hc:(WX E (Q.getD i 0))[m]?=some c):
  c<n/\f c=c/\∃ w:Int,W[c]?=some w/\1<=w/\w<=WW E c/\(w ≠ 1->Kh E n f i (m+1) Q (W.set c (w - 1)))/\(w=1->Kh E n f i (m+1) (Q++[c]) (W.set c (w - 1))):=by
 have hqi:Q[i]?=some (Q.getD i 0):=by rw [gE2,gE1 hi];rfl
 have hwt:=h.wt
 generalize hq:Q.getD i 0=q at *
 have hmem:c∈WX E q:=gE9 hc
 have hce:∃ e∈E,e.2=q/\e.1=c:=by
  obtain ⟨e,he,h1⟩:=gB7.1 hmem
  have:=gB4.1 he
  exact ⟨e,this.1,by simpa using this.2,h1⟩
 obtain ⟨e0,he0,he1,he2⟩:=hce
 have hcn:=hE e0 he0
 rw [he2] at hcn
 obtain ⟨hc1,hc2⟩:=hcn
 have hml:=(List.getElem?_eq_some_iff.1 hc).1
 have hcv:=(List.getElem?_eq_some_iff.1 hc).2
 have hqn:q ∉ Q.take i:=fun hin=>by
  obtain ⟨j,hj,hj2⟩:=List.mem_take_iff_getElem.1 hin
  have hji:j<i:=by have:=List.length_take_le i Q;omega
  have e1:Q[j]=Q[i]:=by rw [hj2,(List.getElem?_eq_some_iff.1 hqi).2]
  exact gBf.1 h.nd j i (by omega) hi hji e1
 have htk:Q.take (i+1)=Q.take i++[q]:=by rw [gE8 hi,(List.getElem?_eq_some_iff.1 hqi).2]
 have hsn:=Pr (E:=E) hqn
 have hle:=fun d=>Qj E (Q.take (i+1)) d
 rw [htk] at hle
 have htm:(WX E q).take (m+1)=(WX E q).take m++[c]:=by rw [gE8 hml,hcv]
 have hcnt:∀ d,((WX E q).take (m+1)).countP (· == d)=((WX E q).take m).countP (· == d)+if c=d then 1 else 0:=fun d=>by
  rw [htm,List.countP_append]
  by_cases e:c=d <;> simp [e]
 have hsub:∀ d k,((WX E q).take k).countP (· == d)<=(WX E q).countP (· == d):=fun d k=>(List.take_sublist k _).countP_le
 have hw:=hwt c hc1
 have hb1:=hcnt c
 rw [if_pos rfl] at hb1
 have hb2:=hsub c (m+1)
 have hb3:=hle c
 rw [hsn] at hb3
 refine ⟨hc1,hc2,_,hw,by omega,by omega,fun hw1=>?_,fun hw1=>?_⟩
 ·refine ⟨by simp [h.len],fun d hd=>?_,h.nd,h.rep,fun d hd hd2=>?_,h.topo⟩
  ·rw [hq,gAE,hcnt d]
   by_cases e:c=d
   rotate_left
   ·rw [if_neg e,if_neg e,hwt d hd,gBr]
   subst e
   rw [if_pos rfl,if_pos (by rw [h.len];exact hc1),if_pos rfl]
   congr 1;omega
  rw [gAE]
  by_cases e:c=d
  rotate_left
  ·rw [if_neg e];exact h.zero d hd hd2
  subst e
  rw [if_pos rfl,if_pos (by rw [h.len];exact hc1),h.zero c hd hd2,hw]
  constructor
  ·intro h0;injection h0 with h0;omega
  intro h0;injection h0 with h0;omega
 have hcq:c ∉ Q:=fun hin=>by
  have:=(h.zero c hc1 hc2).1 hin
  rw [hw] at this
  injection this with this
  omega
 have htk2:(Q++[c]).take i=Q.take i:=gBm (by omega)
 have hgq:(Q++[c]).getD i 0=q:=by rw [gE2,gEa hi,hqi];rfl
 refine ⟨by simp [h.len],fun d hd=>?_,?_,fun d hd=>?_,fun d hd hd2=>?_,fun j d hj e he h1=>?_⟩
 ·rw [htk2,hgq,gAE,hcnt d]
  by_cases e:c=d
  rotate_left
  ·rw [if_neg e,if_neg e,hwt d hd,gBr]
  subst e
  rw [if_pos rfl,if_pos (by rw [h.len];exact hc1),if_pos rfl]
  congr 1;omega
 ·rw [List.nodup_append]
  exact ⟨h.nd,by simp,fun a ha b hb=>by simp at hb;subst hb;intro e;subst e;exact hcq ha⟩
 ·rcases gB0.1 hd with h1 | h1
  ·exact h.rep d h1
  simp at h1;subst h1;exact ⟨hc1,hc2⟩
 ·rw [gAE,gB0,gBb]
  by_cases e:c=d
  rotate_left
  ·rw [if_neg e,<- h.zero d hd hd2]
   exact ⟨fun h1=>h1.elim id fun h2=>absurd h2.symm e,.inl⟩
  subst e
  rw [if_pos rfl,if_pos (by rw [h.len];exact hc1)]
  exact ⟨fun _=>by congr 1;omega,fun _=>.inr rfl⟩
 rcases gBx j Q.length with hl | hl
 ·rw [gEa hl] at hj
  obtain ⟨j',a1,a2⟩:=h.topo j d hj e he h1
  exact ⟨j',a1,by rw [gEa (List.getElem?_eq_some_iff.1 a2).1];exact a2⟩
 rw [gEb hl] at hj
 have hj0:j=Q.length:=by
  have:=(List.getElem?_eq_some_iff.1 hj).1
  simp at this;omega
 subst hj0
 simp at hj
 subst hj
 have hfull:WY E (Q.take i++[q]) c=WW E c:=by rw [hsn];omega
 have hin:=Ps hfull e he h1
 rw [<- htk] at hin
 obtain ⟨j',hj',hj2⟩:=List.mem_take_iff_getElem.1 hin
 exact ⟨j',by omega,by rw [gEa (by omega),gE1 (by omega),hj2]⟩
end
def RE (E:List Ed) (n:Nat) (f:Nat->Nat) (Q:List Nat):Prop:=Q.Nodup/\(∀ c,c∈Q↔c<n/\f c=c)/\∀ (j c:Nat),Q[j]?=some c->∀ e∈E,e.1=c->∃ j',j'<j/\Q[j']?=some e.2
theorem Kh.done {E:List Ed} {n:Nat} {f:Nat->Nat} {Q:List Nat} {W:List Int} (h:Kh E n f Q.length 0 Q W) (rk:Nat->Nat) (hE:∀ e∈E,e.2<n/\f e.2=e.2/\rk e.2<rk e.1):RE E n f Q:=by
 refine ⟨h.nd,fun c=>⟨h.rep c,?_⟩,h.topo⟩
 have key:∀ k c,rk c<=k->c<n->f c=c->c∈Q:=by
  intro k
  induction k with
  | zero=>
   intro c hk hc hf
   rw [h.zero c hc hf,h.wt c hc,gBn]
   have h0:WW E c=0:=by
    unfold WW
    rw [List.countP_eq_zero]
    intro e he h1
    have:=(hE e he).2.2
    have h2:e.1=c:=by simpa using h1
    rw [h2] at this;omega
   have h1:=Qj E Q c
   rw [gBq,List.countP_nil]
   congr 1;omega
  | succ k ih=>
   intro c hk hc hf
   rw [h.zero c hc hf,h.wt c hc,gBn]
   have hall:∀ e∈E,e.1=c->e.2∈Q:=fun e he h1=>by
    obtain ⟨a1,a2,a3⟩:=hE e he
    rw [h1] at a3
    exact ih e.2 (by omega) a1 a2
   have h1:WY E Q c=WW E c:=by
    unfold WY WW
    refine List.countP_congr fun e he=>?_
    simp only [gA1,gBM,beq_iff_eq]
    exact ⟨fun h=>h.1,fun h=>⟨h,hall e he h⟩⟩
   rw [h1,gBq,List.countP_nil]
   congr 1;omega
 exact fun ⟨h1,h2⟩=>key _ c (gBu _) h1 h2
def Tu (R:List (List Ar)) (D:List Int):Prop:=D.length=R.length/\∀ v,v<R.length->Least (Wi true R) v (Wh D (-1) v)
theorem G2 {X:List (List Ar)} (hv:C7 X=true) {n m:Nat}:m∈Wi true X n↔(0,(m:Int))∈X.getD n []:=by
 rw [<- MS true hv]
 unfold LT H6
 simp only [gB7,gB4,gA9,gA6,beq_iff_eq]
 constructor
 rotate_left
 ·intro h
  exact ⟨_,⟨h,rfl⟩,by simp⟩
 rintro ⟨a,⟨h1,h2⟩,rfl⟩
 have h3:0<=a.2:=by
  rcases gBx n X.length with h | h
  rotate_left
  ·rw [gE2,gAB h] at h1;simp at h1
  rw [gE2,gE1 h,gBF] at h1
  have:=(gE4 hv).1.2.2.2 _ (gE6 h) a h1
  omega
 have e:((0:Int),((a.2.toNat:Nat):Int))=a:=by
  rcases a with ⟨x,y⟩
  simp only at h2 h3 ⊢
  rw [h2];congr 1;omega
 rw [e];exact h1
def WZ (D:List Int) (v:Nat):Nat:=(D.getD v 0).toNat
theorem Ik {X:List (List Ar)} {D:List Int} (hv:C7 X=true) (h:Tu X D) {v:Nat} (hs:v<X.length):D[v]?=some (WZ D v:Int)/\WZ D v<X.length/\Rc (Wi true X) v (WZ D v)/\Rc (Wi true X) (WZ D v) v/\WZ D (WZ D v)=WZ D v:=by
 have hlo:BZ X=true:=gEg (gE4 hv).1
 have hE:=Dq true hlo
 obtain ⟨m,a1,a2,a3,a4⟩:=h.2 v hs
 have hg:D[v]?=some (m:Int):=by
  have:v<D.length:=by rw [h.1];exact hs
  unfold Wh at a1
  rw [gE1 this] at a1 ⊢
  rw [<- a1];rfl
 have e:WZ D v=m:=by unfold WZ;rw [gE2,hg];rfl
 have hm:=a2.lt hs hE
 obtain ⟨m2,b1,b2,b3,b4⟩:=h.2 m hm
 have e2:WZ D m=m:=by
  have hg2:D[m]?=some (m2:Int):=by
   have:m<D.length:=by rw [h.1];exact hm
   unfold Wh at b1
   rw [gE1 this] at b1 ⊢
   rw [<- b1];rfl
  have c1:=a4 m2 (a2.trans b2) (b3.trans a3)
  have c2:=b4 m (.refl _) (.refl _)
  unfold WZ;rw [gE2,hg2]
  show ((m2:Int)).toNat=m
  omega
 rw [e]
 exact ⟨hg,hm,a2,a3,e2⟩
noncomputable def X1 (X:List (List Ar)) (v:Nat):Nat:=(List.range X.length).countP fun u=>@decide (Rc (Wi true X) v u) (Classical.propDecidable _)
theorem Il {γ:Type} {p q:γ->Bool}:∀ {l:List γ},(∀ x∈l,p x=true->q x=true)->∀ x∈l,q x=true->p x=false->l.countP p<l.countP q
 | a :: l,h,x,hx,h1,h2=>by
  have hm:l.countP p<=l.countP q:=List.countP_mono_left fun y hy=>h y (gEf _ hy)
  have ha:=h a gB3
  rw [gAo,gAo]
  rcases gB2.1 hx with rfl | hx
  ·rw [h1,h2];simp;omega
  ·have ih:=Il (fun y hy=>h y (gEf _ hy)) x hx h1 h2
   cases hp:p a with
   | false=>simp;split <;> omega
   | true=>rw [ha hp];simp;omega
def X3 (cl:List Int) (a:Ar):Option Ar:=if a.1 ≠ 0 then some (a.1,cl.getD a.2.toNat 0) else none
def X4 (cl:List Int) (row:List Ar):List Ar:=row.filterMap (X3 cl)
def X5 (cl:List Int) (X:List (List Ar)) (s:Nat):List Ar:=(0,cl.getD s 0) :: X4 cl (X.getD s [])
def X6 (f:Nat->Nat) (cl:List Int) (X:List (List Ar)) (k c:Nat):List Ar:=((List.range k).filter fun s=>f s == c).flatMap (X5 cl X)
def X7 (f:Nat->Nat) (cl:List Int) (X:List (List Ar)) (k:Nat):List (List Ar):=(List.range X.length).map (X6 f cl X k)
theorem RF (cl:List Int) (row:List Ar):(X4 cl row).length<=row.length:=List.length_filterMap_le _ _
theorem Nh (f:Nat->Nat) (cl:List Int) (X:List (List Ar)) (k:Nat):(X7 f cl X k).length=X.length:=by simp [X7]
theorem RG {f:Nat->Nat} {cl:List Int} {X:List (List Ar)} {k c:Nat} (h:c<X.length):(X7 f cl X k)[c]?=some (X6 f cl X k c):=by simp [X7,h]
theorem Pt (f:Nat->Nat) (cl:List Int) (X:List (List Ar)) (k c:Nat):X6 f cl X (k+1) c=X6 f cl X k c++if f k=c then X5 cl X k else []:=by
 unfold X6
 rw [List.range_succ,List.filter_append,List.flatMap_append]
 congr 1
 by_cases h:f k=c
 ·simp [h]
 simp [h]
theorem Ni (f:Nat->Nat) (cl:List Int) (X:List (List Ar)) (c:Nat):∀ k,k<=X.length->(X6 f cl X k c).length<=k+Ci (X.take k):=by
 intro k
 induction k with
 | zero=>intro _;simp [X6]
 | succ k ih=>
  intro hk
  have h1:=ih (by omega)
  have h2:=Da (R:=X) (k:=k) hk
  have h3:=RF cl X[k]
  have h4:X.getD k []=X[k]:=by rw [gE2,gE1 hk];rfl
  rw [Pt,gAI]
  split
  ·unfold X5;rw [h4,gAJ];omega
  simp;omega
def X8 (E:List Ed) (c:Nat):List Int:=(E.filter fun e=>e.1 == c).map fun e=>(e.2:Int)
def X9 (n:Nat) (E:List Ed):List (List Int):=(List.range n).map (X8 E)
theorem RH {n:Nat} {E:List Ed} {c:Nat} (h:c<n):(X9 n E)[c]?=some (X8 E c):=by simp [X9,h]
theorem Nj {E:List Ed} {c:Nat} {x:Int}:x∈X8 E c↔∃ t:Nat,x=(t:Int)/\(c,t)∈E:=by
 unfold X8
 simp only [gB7,gB4,beq_iff_eq]
 constructor
 rotate_left
 ·rintro ⟨t,rfl,h⟩
  exact ⟨(c,t),⟨h,rfl⟩,rfl⟩
 rintro ⟨e,⟨h1,h2⟩,rfl⟩
 exact ⟨e.2,rfl,by rw [<- h2];exact h1⟩
def Xa (O:List (List Ar)) (nx:List Int):List Ar:=nx.flatMap fun t=>O.getD t.toNat []
def Xb (N:List (List Int)) (O:List (List Ar)) (c:Nat):List (List Ar):=O.set c (CN (O.getD c []++Xa O (N.getD c [])))
theorem RI (N:List (List Int)) (O:List (List Ar)) (c:Nat):(Xb N O c).length=O.length:=by simp [Xb]
theorem G3 {α:Type} [DecidableEq α]:∀ {l m:List α},l.Nodup->(∀ x∈l,x∈m)->l.length<=m.length
 | [],_,_,_=>gBE _
 | a :: l,m,h,hs=>by
  have h2:=List.nodup_cons.1 h
  have ha:=hs a gB3
  have ih:=G3 (m:=m.erase a) h2.2 fun x hx=>(List.mem_erase_of_ne (fun e=>h2.1 (by rw [<- e];exact hx))).2 (hs x (gEf _ hx))
  have h3:=List.length_erase_of_mem ha
  have h4:=List.length_pos_of_mem ha
  simp only [gAJ]
  omega
theorem Jg {l:List Ar} (h:SortA l):l.Nodup:=h.imp fun {a b} hab=>by
 rintro rfl
 rw [GY] at hab;cases hab
def Xc (cl:List Int) (X:List (List Ar)):List Ar:=(List.range X.length).flatMap (X5 cl X)
theorem RJ (cl:List Int) (X:List (List Ar)):(Xc cl X).length<=X.length+Ci X:=by
 have h:Xc cl X=X6 (fun _=>0) cl X X.length 0:=by
  unfold Xc X6
  rw [List.filter_eq_self.2 (fun _ _=>by simp)]
 rw [h]
 have:=Ni (fun _=>0) cl X 0 X.length (gBu _)
 rwa [gBn] at this
structure P3 (f:Nat->Nat) (cl:List Int) (X:List (List Ar)) (Q:List Nat) (i:Nat) (O:List (List Ar)):Prop where
 len:O.length=X.length
 sz:∀ c,(O.getD c []).length<=X.length+Ci X
 sub:∀ c,∀ x∈O.getD c [],x∈Xc cl X
 raw:∀ c,c<X.length->c ∉ Q.take i->O.getD c []=X6 f cl X X.length c
 don:∀ c,c∈Q.take i->SortA (O.getD c [])/\∀ x,x∈O.getD c []↔∃ s,s<X.length/\Rc (Wi true X) c s/\x∈X5 cl X s
theorem Hk (f:Nat->Nat) (cl:List Int) (X:List (List Ar)) (k:Nat) {c:Nat} (h:c<X.length):(X7 f cl X k).getD c []=X6 f cl X k c:=by rw [gE2,RG h];rfl
theorem P3.start (f:Nat->Nat) (cl:List Int) (X:List (List Ar)) (Q:List Nat):P3 f cl X Q 0 (X7 f cl X X.length):=by
 have out:∀ c,¬ c<X.length->(X7 f cl X X.length).getD c []=[]:=fun c h=>by rw [gE2,gAB (by rw [Nh];omega)];rfl
 refine ⟨Nh _ _ _ _,fun c=>?_,fun c x hx=>?_,fun c hc _=>Hk _ _ _ _ hc,fun c hc=>by simp at hc⟩
 ·by_cases h:c<X.length
  rotate_left
  ·rw [out c h];simp
  rw [Hk _ _ _ _ h]
  have:=Ni f cl X c X.length (gBu _)
  rwa [gBn] at this
 by_cases h:c<X.length
 rotate_left
 ·rw [out c h] at hx;simp at hx
 rw [Hk _ _ _ _ h] at hx
 obtain ⟨s,h1,h2⟩:=gB5.1 hx
 exact gB5.2 ⟨s,(gB4.1 h1).1,h2⟩
theorem RK {X:List (List Ar)} {D:List Int} (hv:C7 X=true) (h:Tu X D) {v s:Nat} (hvl:v<X.length) (hr:Rc (Wi true X) v s):WZ D v=WZ D s\/∃ t,(WZ D v,t)∈WV (WZ D) X X.length/\Rc (Wi true X) t s:=by
 have hlo:BZ X=true:=gEg (gE4 hv).1
 have hE:=Dq true hlo
 induction hr with
 | refl=>exact .inl rfl
 | @tail u w h1 h2 ih=>
  rcases ih with e | ⟨t,e1,e2⟩
  rotate_left
  ·exact .inr ⟨t,e1,e2.tail h2⟩
  by_cases ew:WZ D u=WZ D w
  ·exact .inl (e.trans ew)
  have hu:=h1.lt hvl hE
  have hw:=hE _ hu _ h2
  refine .inr ⟨WZ D w,?_,(Ik hv h hw).2.2.2.1⟩
  rw [Ng]
  rw [G2 hv] at h2
  exact ⟨u,hu,(0,(w:Int)),h2,rfl,by simpa using ew,by rw [e];simp⟩
theorem Tw {X:List (List Ar)} {D:List Int} (hv:C7 X=true) (h:Tu X D) {c t:Nat} (he:(c,t)∈WV (WZ D) X X.length):Rc (Wi true X) c t:=by
 have hlo:BZ X=true:=gEg (gE4 hv).1
 obtain ⟨s,hs,a,ha,h0,hne,e⟩:=Ng.1 he
 cases e
 have hg:X.getD s []=X[s]:=by rw [gE2,gE1 hs];rfl
 have hb:=(gE4 hlo).2.2.2 _ (gE6 hs) a (by rw [<- hg];exact ha)
 have ht:a.2.toNat<X.length:=by omega
 have hadj:a.2.toNat∈Wi true X s:=by
  rw [G2 hv]
  have:((0:Int),((a.2.toNat:Nat):Int))=a:=by
   rcases a with ⟨x,y⟩
   simp only at h0 hb ⊢
   rw [h0];congr 1;omega
  rw [this];exact ha
 exact ((Ik hv h hs).2.2.2.1.trans (.one hadj)).trans (Ik hv h ht).2.2.1
theorem P3.step {X:List (List Ar)} {D cl:List Int} {Q:List Nat} {O:List (List Ar)} {i:Nat} (hv:C7 X=true) (h:Tu X D) (hQ:RE (WV (WZ D) X X.length) X.length (WZ D) Q) (hP:P3 (WZ D) cl X Q i O) {c:Nat} (hi:Q[i]?=some c):P3 (WZ D) cl X Q (i+1) (Xb (X9 X.length (WV (WZ D) X X.length)) O c):=by
 have hlo:BZ X=true:=gEg (gE4 hv).1
 have hE:=Dq true hlo
 obtain ⟨hnd,hmem,htop⟩:=hQ
 have hil:i<Q.length:=(List.getElem?_eq_some_iff.1 hi).1
 have hcQ:c∈Q:=gE9 hi
 obtain ⟨hc,hfc⟩:=(hmem c).1 hcQ
 have hcn:c ∉ Q.take i:=fun hin=>by
  obtain ⟨j,hj,e⟩:=List.mem_take_iff_getElem.1 hin
  have h1:=(List.getElem?_eq_some_iff.1 hi).2
  have h2:Q[j]'(by omega)=Q[i]:=e.trans h1.symm
  have:=(List.getElem_inj hnd).1 h2
  omega
 have hsucc:Q.take (i+1)=Q.take i++[c]:=by
  rw [gE8 hil,(List.getElem?_eq_some_iff.1 hi).2]
 have hN:(X9 X.length (WV (WZ D) X X.length)).getD c []=X8 (WV (WZ D) X X.length) c:=by rw [gE2,RH hc];rfl
 have hself:(Xb (X9 X.length (WV (WZ D) X X.length)) O c).getD c []=CN (O.getD c []++Xa O (X8 (WV (WZ D) X X.length) c)):=by
  unfold Xb
  rw [hN,gE2,gEc (by rw [hP.len];exact hc)];rfl
 have hoth:∀ d,d ≠ c->(Xb (X9 X.length (WV (WZ D) X X.length)) O c).getD d []=O.getD d []:=fun d hd=>by
  unfold Xb
  rw [gE2,gE5 (Ne.symm hd),<- gE2]
 have hin:∀ x,x∈O.getD c []++Xa O (X8 (WV (WZ D) X X.length) c)->x∈Xc cl X:=fun x hx=>by
  rcases gB0.1 hx with hx | hx
  ·exact hP.sub _ _ hx
  obtain ⟨t,_,ht⟩:=gB5.1 hx
  exact hP.sub _ _ ht
 have hmemc:∀ x,x∈O.getD c []++Xa O (X8 (WV (WZ D) X X.length) c)↔∃ s,s<X.length/\Rc (Wi true X) c s/\x∈X5 cl X s:=by
  intro x
  rw [gB0,hP.raw c hc hcn]
  constructor
  rotate_left
  ·rintro ⟨s,hs,h1,h2⟩
   rcases RK hv h hc h1 with e | ⟨t,he,h3⟩
   ·refine .inl (gB5.2 ⟨s,gB4.2 ⟨by simpa using hs,?_⟩,h2⟩)
    rw [hfc] at e;simp [e]
   rw [hfc] at he
   refine .inr (gB5.2 ⟨(t:Int),Nj.2 ⟨t,rfl,he⟩,?_⟩)
   simp only [gAd]
   obtain ⟨j,hj,hjt⟩:=htop i c hi _ he rfl
   have ht:t∈Q.take i:=by
    rw [List.mem_take_iff_getElem]
    have h5:=List.getElem?_eq_some_iff.1 hjt
    exact ⟨j,by have:=h5.1;omega,h5.2⟩
   exact ((hP.don t ht).2 x).2 ⟨s,hs,h3,h2⟩
  rintro (hx | hx)
  ·obtain ⟨s,h1,h2⟩:=gB5.1 hx
   have h3:=gB4.1 h1
   have hs:s<X.length:=by simpa using h3.1
   have hfs:WZ D s=c:=by simpa using h3.2
   refine ⟨s,hs,?_,h2⟩
   rw [<- hfs];exact (Ik hv h hs).2.2.2.1
  obtain ⟨t,h1,h2⟩:=gB5.1 hx
  obtain ⟨t,rfl,he⟩:=Nj.1 h1
  (try simp only [gAd] at h2)
  obtain ⟨j,hj,hjt⟩:=htop i c hi _ he rfl
  have ht:t∈Q.take i:=by
   rw [List.mem_take_iff_getElem]
   have h5:=List.getElem?_eq_some_iff.1 hjt
   exact ⟨j,by have:=h5.1;omega,h5.2⟩
  obtain ⟨s,hs,h3,h4⟩:=((hP.don t ht).2 x).1 h2
  exact ⟨s,hs,(Tw hv h he).trans h3,h4⟩
 refine ⟨by rw [RI,hP.len],fun d=>?_,fun d x hx=>?_,fun d hd hdn=>?_,fun d hd=>?_⟩
 ·by_cases e:d=c
  rotate_left
  ·rw [hoth d e];exact hP.sz d
  subst e
  rw [hself]
  refine gBv (G3 (m:=Xc cl X) (Jg (BT _)) fun x hx=>hin x ((Ce _ _).1 hx)) (RJ cl X)
 ·by_cases e:d=c
  rotate_left
  ·rw [hoth d e] at hx;exact hP.sub d x hx
  subst e
  rw [hself,Ce] at hx
  exact hin x hx
 ·rw [hsucc] at hdn
  have e:d ≠ c:=fun e=>hdn (by rw [e];simp)
  rw [hoth d e]
  exact hP.raw d hd fun h=>hdn (gB1 _ h)
 rw [hsucc] at hd
 rcases gB0.1 hd with h1 | h1
 ·have e:d ≠ c:=fun e=>hcn (by rw [<- e];exact h1)
  rw [hoth d e]
  exact hP.don d h1
 have e:d=c:=by simpa using h1
 subst e
 rw [hself]
 exact ⟨BT _,fun x=>by rw [Ce];exact hmemc x⟩
theorem P3.done {X:List (List Ar)} {D cl:List Int} {Q:List Nat} {O:List (List Ar)} (hv:C7 X=true) (h:Tu X D) (hQ:RE (WV (WZ D) X X.length) X.length (WZ D) Q) (hP:P3 (WZ D) cl X Q Q.length O) {s:Nat} (hs:s<X.length):O.getD (WZ D s) []=WF (EG X) cl s:=by
 obtain ⟨_,p2,p3,p4,p5⟩:=Ik hv h hs
 have hin:WZ D s∈Q.take Q.length:=by rw [gBn];exact (hQ.2.1 _).2 ⟨p2,p5⟩
 obtain ⟨h1,h2⟩:=hP.don _ hin
 refine DR h1 (BT _) fun x=>?_
 have hE:=Dq true (gEg (gE4 hv).1:BZ X=true)
 rw [h2]
 refine Iff.trans ?_ (G1 (S:=EG X) (c:=cl) (s:=s) (x:=x)).symm
 constructor
 rotate_left
 ·rintro ⟨a,ha,rfl⟩
  rcases (EH hv hs).1 ha with ⟨h0,u,e,h3⟩ | ⟨h0,t,h3,h4⟩
  ·have hu:=h3.lt hs hE
   refine ⟨u,hu,p4.trans h3,gB2.2 (.inl ?_)⟩
   rw [h0,e];simp
  refine ⟨t,h3.lt hs hE,p4.trans h3,gEf _ (List.mem_filterMap.2 ⟨a,h4,?_⟩)⟩
  unfold X3
  rw [if_pos h0]
 rintro ⟨u,hu,h3,h4⟩
 have hsu:=p3.trans h3
 rcases gB2.1 h4 with rfl | h4
 ·exact ⟨(0,(u:Int)),(EH hv hs).2 (.inl ⟨rfl,u,rfl,hsu⟩),by simp⟩
 obtain ⟨a,ha,e⟩:=List.mem_filterMap.1 h4
 unfold X3 at e
 split at e
 rotate_left
 ·cases e
 rename_i h0
 cases e
 exact ⟨a,(EH hv hs).2 (.inr ⟨h0,u,hsu,ha⟩),rfl⟩
def RL:Nat->List (List Nat)
 | 0=>[[]]
 | n+1=>RL n++(RL n).map (·++[n])
theorem KA:∀ n,(RL n).length=2 ^ n
 | 0=>rfl
 | n+1=>by rw [RL,gAI,gAN,KA n,Nat.pow_succ];omega
theorem Nk (n:Nat) (p:Nat->Bool):DV (n+1) p=DV n p++(if p n then [n] else []):=by
 unfold DV
 rw [List.range_succ,List.filter_append]
 congr 1
 cases h:p n <;> simp [h]
theorem KB (p:Nat->Bool):∀ n,DV n p∈RL n
 | 0=>by simp [DV,RL]
 | n+1=>by
  have h:=KB p n
  rw [Nk,RL]
  cases hp:p n with
  | true=>exact List.mem_append_right _ (gB7.2 ⟨_,h,by simp⟩)
  | false=>exact gB1 _ (by simpa using h)
theorem KC (n:Nat) (p:Nat->Bool):(DV n p).length<=n:=by
 unfold DV
 exact gBv (gAM _ _) (by rw [List.length_range];exact gBu _)
noncomputable def EP (R:List (List Ar)) (X:List Nat) (e:Int):List Nat:=DV R.length fun u=>@decide (∃ v∈tg R X e,Rc (Wi true R) v u) (Classical.propDecidable _)
theorem EJ {R:List (List Ar)} {X:List Nat} {e:Int} {u:Nat}:u∈EP R X e↔u<R.length/\∃ v∈tg R X e,Rc (Wi true R) v u:=by
 unfold EP
 rw [BI]
 exact and_congr_right fun _=>@decide_eq_true_iff _ (Classical.propDecidable _)
theorem Nl {R:List (List Ar)} {X:List Nat} {e:Int} {p:Nat->Bool} (h:∀ u,u<R.length->(p u=true↔∃ v∈tg R X e,Rc (Wi true R) v u)):DV R.length p=EP R X e:=by
 refine G0 (Bu _ _) (Bu _ _) fun u=>?_
 rw [BI]
 show _↔u∈EP R X e
 rw [EJ]
 exact and_congr_right fun hu=>h u hu
def Xd (r:List Ar):List Int:=(r.filter fun a=>a.1 != 0).map (·.1)
def Xe (R:List (List Ar)) (X:List Nat):List Int:=X.flatMap fun s=>Xd (R.getD s [])
def Uq (l:List Int):List Int:=l.foldl (fun acc e=>Df e acc) []
theorem Hl {x:Int}:∀ (l acc:List Int),x∈l.foldl (fun acc e=>Df e acc) acc↔x∈acc\/x∈l
 | [],acc=>by simp
 | a :: l,acc=>by
  rw [gAw,Hl l,Cv,gB2]
  constructor
  ·rintro ((h | h) | h)
   ·exact .inr (.inl h)
   ·exact .inl h
   ·exact .inr (.inr h)
  ·rintro (h | h | h)
   ·exact .inl (.inr h)
   ·exact .inl (.inl h)
   ·exact .inr h
theorem KD:∀ (l acc:List Int),W9 acc->W9 (l.foldl (fun acc e=>Df e acc) acc)
 | [],_,h=>h
 | _ :: l,_,h=>KD l _ (DN h)
def Xf (R:List (List Ar)) (X:List Nat):List Int:=Uq (Xe R X)
theorem Hm (R:List (List Ar)) (X:List Nat):W9 (Xf R X):=KD _ _ List.Pairwise.nil
theorem RM {R:List (List Ar)} {X:List Nat} {e:Int}:e∈Xe R X↔∃ s∈X,∃ a∈R.getD s [],a.1 ≠ 0/\a.1=e:=by
 unfold Xe Xd
 simp only [gB5,gB7,gB4,bne_iff_ne]
 constructor
 ·rintro ⟨s,hs,a,⟨ha,h0⟩,rfl⟩;exact ⟨s,hs,a,ha,h0,rfl⟩
 rintro ⟨s,hs,a,ha,h0,rfl⟩;exact ⟨s,hs,a,⟨ha,h0⟩,rfl⟩
theorem Dm {R:List (List Ar)} {X:List Nat} {e:Int}:e∈Xf R X↔∃ s∈X,∃ a∈R.getD s [],a.1 ≠ 0/\a.1=e:=by
 unfold Xf Uq
 rw [Hl,RM]
 simp
def Xg (R:List (List Ar)) (X:List Nat):List (List Int):=X.filterMap fun s=>if (Gd (R.getD s [])).2 then some (Gd (R.getD s [])).1 else none
abbrev Xh:=List Ar × List (List Int) × Bool
def Xi (S:List (List Nat)) (x:List Nat):Nat:=S.idxOf x
def Xk (S:List (List Nat)) (x:List Nat):List (List Nat):=if x∈S then S else S++[x]
noncomputable def LV (R:List (List Ar)) (X:List Nat) (p:List Ar × List (List Nat)) (e:Int):List Ar × List (List Nat):=(p.1++[(e,(Xi p.2 (EP R X e):Int))],Xk p.2 (EP R X e))
noncomputable def Xl (R:List (List Ar)) (X:List Nat) (L:List Int) (S:List (List Nat)):List Ar × List (List Nat):=L.foldl (LV R X) ([],S)
theorem KE (R:List (List Ar)) (X:List Nat) (L:List Int) (S:List (List Nat)) (e:Int):Xl R X (L++[e]) S=LV R X (Xl R X L S) e:=by unfold Xl;rw [gAv];rfl
noncomputable def Xm (R:List (List Ar)) (X:List Nat):Bool:=@decide (∃ s∈X,Dv R s) (Classical.propDecidable _)
theorem Ql {R:List (List Ar)} {X:List Nat} {B:List Bool} (hB:DvL R B) (hX:∀ s∈X,s<R.length):X.any (fun s=>B.getD s false)=Xm R X:=by
 rw [gA4,gAi]
 unfold Xm
 rw [@decide_eq_true_iff _ (Classical.propDecidable _)]
 exact exists_congr fun s=>and_congr_right fun hs=>hB.2 s (hX s hs)
noncomputable def Xn (R:List (List Ar)) (m:Int) (X:List Nat) (S:List (List Nat)):Xh × List (List Nat):=
 if m=3/\Xm R X=true then (([],[],true),S)
 else (((Xl R X (Xf R X) S).1,(if m=1 then [] else D2 (Xg R X)),false),(Xl R X (Xf R X) S).2)
noncomputable def B8 (R:List (List Ar)) (m:Int):Nat->List (List Nat) × List Xh
 | 0=>([WL R 0],[])
 | k+1=>match (B8 R m k).1[k]? with
  | none=>B8 R m k
  | some X=>((Xn R m X (B8 R m k).1).2,(B8 R m k).2++[(Xn R m X (B8 R m k).1).1])
def ClS (R:List (List Ar)) (X:List Nat):Prop:=(∃ p,X=DV R.length p)/\∀ v∈X,∀ u,u<R.length->Rc (Wi true R) v u->u∈X
theorem ClS.lt {R:List (List Ar)} {X:List Nat} (h:ClS R X):∀ v∈X,v<R.length:=fun v hv=>by
 obtain ⟨p,rfl⟩:=h.1
 exact (BI.1 hv).1
theorem ClS.len {R:List (List Ar)} {X:List Nat} (h:ClS R X):X.length<=R.length:=by
 obtain ⟨p,rfl⟩:=h.1
 exact KC _ _
theorem ClS.aft {R : List (List Ar)} (X : List Nat) (e : Int) : ClS R (EP R X e) :=
 ⟨⟨_, rfl⟩, fun v hv u hu hr => by
  obtain ⟨_, w, hw, h2⟩ := EJ.1 hv
  exact EJ.2 ⟨hu, w, hw, h2.trans hr⟩⟩
theorem ClS.zero (R:List (List Ar)):ClS R (WL R 0):=
 ⟨⟨_,rfl⟩,fun v hv u hu hr=>CZ.2 ⟨hu,(CZ.1 hv).2.trans hr⟩⟩
structure StI (R:List (List Ar)) (S:List (List Nat)):Prop where
 cl:∀ X∈S,ClS R X
 nd:S.Nodup
theorem StI.len {R:List (List Ar)} {S:List (List Nat)} (h:StI R S):S.length<=2 ^ R.length:=by
 rw [<- KA]
 refine G3 h.nd fun X hX=>?_
 obtain ⟨p,hp⟩:=(h.cl X hX).1
 rw [hp]
 exact KB p _
theorem StI.add {R:List (List Ar)} {S:List (List Nat)} (h:StI R S) {x:List Nat} (hx:ClS R x):StI R (Xk S x):=by
 unfold Xk
 split
 ·exact h
 rename_i hn
 refine ⟨fun X hX=>?_,List.nodup_append.2 ⟨h.nd,by simp,fun a ha b hb=>?_⟩⟩
 rotate_left
 ·rw [gBb.1 hb]
  exact fun e=>hn (e ▸ ha)
 rcases gB0.1 hX with q | q
 ·exact h.cl X q
 rw [gBb.1 q];exact hx
theorem StI.zero (R:List (List Ar)):StI R [WL R 0]:=⟨fun X hX=>by rw [gBb.1 hX];exact ClS.zero R,by simp⟩
theorem RN (S:List (List Nat)) (x:List Nat):S.length<=(Xk S x).length/\(Xk S x).length<=S.length+1:=by
 unfold Xk
 split <;> simp
theorem RO (S:List (List Nat)) (x:List Nat) {j:Nat} (h:j<S.length):(Xk S x)[j]?=S[j]?:=by
 unfold Xk
 split
 ·rfl
 exact gEa h
theorem Tx (S:List (List Nat)) (x:List Nat):Xi S x<(Xk S x).length:=by
 unfold Xi Xk
 split
 ·rename_i h;exact List.idxOf_lt_length_iff.2 h
 rename_i h
 have:=List.idxOf_le_length (a:=x) (l:=S)
 simp only [gAI,gAJ,gAO];omega
theorem Qm {S:List (List Nat)} {x:List Nat} (h:x ∉ S):Xi S x=S.length:=List.idxOf_eq_length h
structure ArI (R:List (List Ar)) (S:List (List Nat)) (L:List Int) (p:List Ar × List (List Nat)):Prop where
 st:StI R p.2
 ge:S.length<=p.2.length
 pre:∀ j,j<S.length->p.2[j]?=S[j]?
 ev:p.1.map (·.1)=L
 to:∀ a∈p.1,0<=a.2/\a.2<(p.2.length:Int)
theorem ArI.step {R:List (List Ar)} {S:List (List Nat)} {L:List Int} {p:List Ar × List (List Nat)} (h:ArI R S L p) (X:List Nat) (e:Int):ArI R S (L++[e]) (LV R X p e):=by
 have h1:=RN p.2 (EP R X e)
 have h2:=Tx p.2 (EP R X e)
 refine ⟨h.st.add (ClS.aft X e),gBv h.ge h1.1,fun j hj=>?_,by simp [LV,h.ev],fun a ha=>?_⟩
 ·show (Xk p.2 (EP R X e))[j]?=_
  rw [RO _ _ (gBw hj h.ge),h.pre j hj]
 show 0<=a.2/\a.2<((Xk p.2 (EP R X e)).length:Int)
 rcases gB0.1 ha with q | q
 ·have:=h.to a q;omega
 rw [gBb.1 q];simp only;omega
theorem ArI.go {R:List (List Ar)} {S:List (List Nat)} (X:List Nat):∀ (L L0:List Int) (p:List Ar × List (List Nat)),ArI R S L0 p->ArI R S (L0++L) (L.foldl (LV R X) p)
 | [],L0,p,h=>by rw [gAk];exact h
 | e :: L,L0,p,h=>by
  have:=ArI.go X L (L0++[e]) _ (h.step X e)
  rw [gAj] at this
  exact this
theorem ArI.all {R:List (List Ar)} {S:List (List Nat)} (h:StI R S) (X:List Nat) (L:List Int):ArI R S L (Xl R X L S):=
 ArI.go X L [] ([],S) ⟨h,gBu _,fun _ _=>rfl,rfl,by simp⟩
end Go.Proofs.YtbnabodoabimnaaGreat
