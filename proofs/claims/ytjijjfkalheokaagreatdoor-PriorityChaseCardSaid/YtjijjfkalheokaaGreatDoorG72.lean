/- Lemmas. -/
import Derived.Test.YtjijjfkalheokaaGreatDoorZk
import Derived.Test.YtjijjfkalheokaaGreatDoorDl1
import Derived.Test.YtjijjfkalheokaaGreatDoorG70
import Derived.Test.YtjijjfkalheokaaGreatDoorG45
import Derived.Test.YtjijjfkalheokaaGreatDoorMG
import Derived.Test.YtjijjfkalheokaaGreatDoorMK
import Derived.Test.YtjijjfkalheokaaGreatDoorG67
namespace Go.Proofs.YtjijjfkalheokaaGreatDoor
set_option linter.unusedVariables false
set_option linter.unusedSimpArgs false
open Go.RowKit
set_option maxRecDepth 100000
attribute [local go_sem] lga C.pl C.one

theorem Ot {c:List Int} {row:List Ar} {e x:Int} {k:Nat} (h:k<row.length):LN c (row.take (k+1)) e x=(LN c (row.take k) e x || (row[k].1 == e && c.getD row[k].2.toNat 0 == x)):=by
 unfold LN
 rw [gE8 h,List.any_append]
 simp
theorem SU (row:List Ar) (c:List Int) (e x:Int) (hn:row.length<=140737488355328) (hc:c.length<=140737488355328) (hb:∀ a∈row,0<=a.2/\a.2<(c.length:Int)):FC Tryz.prog 186 [BK row,As c,.i e,.i x] [] (fun r o=>o=[]/\r=.b (LN c row e x)):=by
 refine A6 Tryz.func186 rfl (by rw [Tryz.ntmps186];simp) ?_
 rw [Tryz.ntmps186]
 simp only [Bf,BK,As]
 (refine Wt ?_;(repeat clear hK K);repeat refine kq fun K hK=>?_)
 refine A8 (fun k:Nat=>{ tm:=[(0,.a (.c (.t 2 (Ao row)))),(1,.a (.c (.t 1 (Ab c)))),(2,.i e),(3,.i x),(9,.i k)],hp:=[],n:=35,pin:=0 }) (fun k=>k<=row.length/\LN c (row.take k) e x=false) (fun k=>row.length - k) 0 ?_ ?_ ?_
 ·exact ⟨by omega,by simp [LN]⟩
 ·exact WE
 rintro k ⟨hk,hno⟩ K hK
 by_cases hlt:k<row.length
 rotate_left
 ·have d1:decide ((k:Int)<(row.length:Int))=false:=by simpa using hlt
  rw [gE7 (by omega)] at hno
  (refine Wu (an @A2 (an @Ak @d1)) ?_;(repeat clear hK K);repeat refine kq fun K hK=>?_)
  refine WC ?_
  (refine Wx ?_;repeat clear hK K)
  (refine Wt ?_;(repeat clear hK K);repeat refine kq fun K hK=>?_)
  refine WH Tryz.results186 ?_
  rw [hno]
 have d1:decide ((k:Int)<(row.length:Int))=true:=by simpa using hlt
 have hmem:=gE6 hlt
 have hba:=hb _ hmem
 have g0:=CC hlt
 have g1:=Dn hlt
 have hst:=Ot (c:=c) (e:=e) (x:=x) hlt
 have hall:LN c (row.take (k+1)) e x=true->LN c row e x=true:=fun h=>by
  unfold LN at h ⊢
  rw [List.any_eq_true] at h ⊢
  obtain ⟨y,h1,h2⟩:=h
  exact ⟨y,List.mem_of_mem_take h1,h2⟩
 generalize row[k]=a at *
 obtain ⟨e0,t⟩:=a
 simp only at g0 g1 hba hst
 obtain ⟨tn,rfl⟩:∃ tn:Nat,t=(tn:Int):=⟨t.toNat,by omega⟩
 have htn:tn<c.length:=by omega
 have gc:=Am (gE1 htn)
 rw [hno,Bool.false_or,Int.toNat_natCast,gE2,gE1 htn,Option.getD_some] at hst
 (refine Wu (an @A2 (an @Ak @d1)) ?_;(repeat clear hK K);repeat refine kq fun K hK=>?_)
 refine WB ?_
 by_cases he:e0=e
 rotate_left
 ·have d2:(e0 == e)=false:=by simpa using he
  (refine Wu (an @A2 (an @Ak (an @g0 (an @g1 @d2)))) ?_;(repeat clear hK K);repeat refine kq fun K hK=>?_)
  refine WC ?_
  (refine Wt ?_;(repeat clear hK K);repeat refine kq fun K hK=>?_)
  refine WD ?_
  refine hK _ (k+1) ⟨by omega,by rw [hst,d2];rfl⟩ (by omega) ?_
  exact WE
 have d2:(e0 == e)=true:=by simpa using he
 by_cases hx:c[tn]=x
 ·have d3:(c[tn] == x)=true:=by simpa using hx
  (refine Wu (an @A2 (an @Ak (an @g0 (an @g1 (an @d2 (an @A4 (an @gc @d3))))))) ?_;(repeat clear hK K);repeat refine kq fun K hK=>?_)
  refine WB ?_
  (refine Wt ?_;(repeat clear hK K);repeat refine kq fun K hK=>?_)
  refine WH Tryz.results186 ?_
  rw [hall (by rw [hst,d2,d3];rfl)]
 have d3:(c[tn] == x)=false:=by simpa using hx
 (refine Wu (an @A2 (an @Ak (an @g0 (an @g1 (an @d2 (an @A4 (an @gc @d3))))))) ?_;(repeat clear hK K);repeat refine kq fun K hK=>?_)
 refine WC ?_
 (refine Wt ?_;(repeat clear hK K);repeat refine kq fun K hK=>?_)
 refine WD ?_
 refine hK _ (k+1) ⟨by omega,by rw [hst,d2,d3];rfl⟩ (by omega) ?_
 exact WE
theorem Ou {c:List Int} {row b:List Ar} {k:Nat} (h:k<row.length):Iy c (row.take (k+1)) b=(Iy c (row.take k) b && LN c b row[k].1 (c.getD row[k].2.toNat 0)):=by
 unfold Iy
 rw [gE8 h,List.all_append]
 simp
theorem Rm (row b:List Ar) (c:List Int) (hn:row.length<=140737488355328) (hbn:b.length<=140737488355328) (hc:c.length<=140737488355328) (hb:∀ a∈row,0<=a.2/\a.2<(c.length:Int)) (hb2:∀ a∈b,0<=a.2/\a.2<(c.length:Int)):FC Tryz.prog 168 [BK row,BK b,As c] [] (fun r o=>o=[]/\r=.b (Iy c row b)):=by
 refine A6 Tryz.func168 rfl (by rw [Tryz.ntmps168];simp) ?_
 rw [Tryz.ntmps168]
 simp only [Bf,BK,As]
 (refine Wt ?_;(repeat clear hK K);repeat refine kq fun K hK=>?_)
 refine A8 (fun k:Nat=>{ tm:=[(0,.a (.c (.t 2 (Ao row)))),(1,.a (.c (.t 2 (Ao b)))),(2,.a (.c (.t 1 (Ab c)))),(7,.i k)],hp:=[],n:=31,pin:=0 }) (fun k=>k<=row.length/\Iy c (row.take k) b=true) (fun k=>row.length - k) 0 ?_ ?_ ?_
 ·exact ⟨by omega,by simp [Iy]⟩
 ·exact WE
 rintro k ⟨hk,hno⟩ K hK
 by_cases hlt:k<row.length
 rotate_left
 ·have d1:decide ((k:Int)<(row.length:Int))=false:=by simpa using hlt
  rw [gE7 (by omega)] at hno
  (refine Wu (an @A2 (an @Ak @d1)) ?_;(repeat clear hK K);repeat refine kq fun K hK=>?_)
  refine WC ?_
  (refine Wx ?_;repeat clear hK K)
  (refine Wt ?_;(repeat clear hK K);repeat refine kq fun K hK=>?_)
  refine WH Tryz.results168 ?_
  rw [hno]
 have d1:decide ((k:Int)<(row.length:Int))=true:=by simpa using hlt
 have hmem:=gE6 hlt
 have hba:=hb _ hmem
 have g0:=CC hlt
 have g1:=Dn hlt
 have hst:=Ou (c:=c) (b:=b) hlt
 have hall:Iy c (row.take (k+1)) b=false->Iy c row b=false:=fun h=>by
  unfold Iy at h ⊢
  rw [List.all_eq_false] at h ⊢
  obtain ⟨y,h1,h2⟩:=h
  exact ⟨y,List.mem_of_mem_take h1,h2⟩
 generalize row[k]=a at *
 obtain ⟨e0,t⟩:=a
 simp only at g0 g1 hba hst
 obtain ⟨tn,rfl⟩:∃ tn:Nat,t=(tn:Int):=⟨t.toNat,by omega⟩
 have htn:tn<c.length:=by omega
 have gc:=Am (gE1 htn)
 rw [hno,Bool.true_and,Int.toNat_natCast,gE2,gE1 htn,Option.getD_some] at hst
 (refine Wu (an @A2 (an @Ak @d1)) ?_;(repeat clear hK K);repeat refine kq fun K hK=>?_)
 refine WB ?_
 (refine Wt ?_;(repeat clear hK K);repeat refine kq fun K hK=>?_)
 (refine Ac 15 [(0,0),(1,0),(2,0),(3,0),(4,0),(5,0),(6,1),(7,0),(8,0),(9,0),(10,0),(11,0),(12,1),(13,0),(14,1),(15,2),(16,0)] (by kernel_rfl) (by kernel_rfl) (by intro c st h;simp [Ae,AF,VT] at h) ?_)
 (refine Wq (an @A2 (an @Ak (an @g0 (an @g1 (an @A4 @gc))))) ?_;repeat clear hK K)
 (refine MF (SU b c e0 c[tn] hbn hc hb2) ?_;intro K1 hK1)
 rintro _ _ ⟨rfl,rfl⟩
 (refine Wz ?_;clear hK1 K1)
 cases hh:LN c b e0 c[tn] with
 | true=>
  rw [hh] at hst
  (refine Wq @Bool.not_true ?_;repeat clear hK K)
  refine WC ?_
  (refine Wt ?_;(repeat clear hK K);repeat refine kq fun K hK=>?_)
  refine WD ?_
  refine hK _ (k+1) ⟨by omega,hst⟩ (by omega) ?_
  exact WE
 | false=>
  rw [hh] at hst
  (refine Wq @Bool.not_false ?_;repeat clear hK K)
  refine WB ?_
  (refine Wt ?_;(repeat clear hK K);repeat refine kq fun K hK=>?_)
  refine WH Tryz.results168 ?_
  rw [hall hst]
def Ym {α:Type} [DecidableEq α] (g:Nat->α) (n s:Nat):List Int:=(Xh g s).1++List.replicate (n - s) 0
theorem JD {α:Type} [DecidableEq α] (g:Nat->α) {n s:Nat} (h:s<=n):(Ym g n s).length=n:=by simp [Ym,(Cx g s).len];omega
theorem Ur {α:Type} [DecidableEq α] (g:Nat->α) {n s t:Nat} (h:t<s) (hs:s<=n):(Ym g n s)[t]?=some ((Xh g s).1.getD t 0):=by
 have hl:=(Cx g s).len
 unfold Ym
 rw [gEa (by omega),gE2,gE1 (by omega)];rfl
theorem SV {α:Type} [DecidableEq α] (g:Nat->α) {n s:Nat} (h:s<n) {v:Int} {L:List Int} {m:Nat} (hn:Xh g (s+1)=(L++[v],m)) (hL:L=(Xh g s).1):(Ym g n s).set s v=Ym g n (s+1):=by
 obtain ⟨q,hq⟩:∃ q,n - s=q+1:=⟨n - s - 1,by omega⟩
 have hq2:n - (s+1)=q:=by omega
 have hl:=(Cx g s).len
 unfold Ym
 rw [hn,hq,hq2,List.replicate_succ,List.set_append_right _ _ (by omega),hl,Nat.sub_self,List.set_cons_zero,hL]
 simp
theorem SW {α:Type} [DecidableEq α] (g:Nat->α) (n:Nat):Ym g n n=(Xh g n).1:=by simp [Ym]
set_option maxHeartbeats 8000000 in
theorem Qy (S:List (List Ar)) (c:List Int) (hn:S.length<=1000000) (hr:∀ r∈S,r.length<=1000000) (hc:c.length=S.length) (hb:∀ r∈S,∀ a∈r,0<=a.2/\a.2<(S.length:Int)):FC Tryz.prog 141 [.a (.c (.t 1 (Ah S))),As c] [] (fun r o=>r=.a (.c (.s 0 S.length))/\o=[.r ⟨3,1,true,A7 (Xk S c)⟩]):=by
 refine A6 Tryz.func141 rfl (by rw [Tryz.ntmps141];simp) ?_
 rw [Tryz.ntmps141]
 simp only [Bf,As]
 have hnx:Xk S c=(Xh (Xj S c) S.length).1:=rfl
 have hgd:∀ s,s<S.length->S.getD s []=S[s]?.getD []:=fun s _=>gE2
 have hfeq:∀ s t,s<S.length->t<S.length->(Xj S c t=Xj S c s↔c.getD t 0=c.getD s 0/\Iy c (S.getD s []) (S.getD t [])=true/\Iy c (S.getD t []) (S.getD s [])=true):=fun s t _ _=>by
  unfold Xj
  rw [Prod.mk.injEq,eq_comm (a:=Xi S c t),Se]
 (refine Wu @A3 ?_;(repeat clear hK K);repeat refine kq fun K hK=>?_)
 have e0:List.replicate S.length (C.v (.int .i64 0))=A7 (Ym (Xj S c) S.length 0):=by simp [A7,Ym,Xh]
 rw [e0]
 refine A8 (fun s:Nat=>{ tm:=[(0,.a (.c (.t 1 (Ah S)))),(1,.a (.c (.t 1 (Ab c)))),(5,.a (.c (.s 0 S.length))),(6,.i (Xh (Xj S c) s).2),(7,.i s)],hp:=[.r ⟨3,1,true,A7 (Ym (Xj S c) S.length s)⟩],n:=85,pin:=0 }) (fun s=>s<=S.length) (fun s=>S.length - s) 0 ?_ ?_ ?_
 ·omega
 ·simp only [Xh]
  exact WE
 rintro s hs K hK
 by_cases hlt:s<S.length
 rotate_left
 ·have d1:decide ((s:Int)<(S.length:Int))=false:=by simpa using hlt
  have hse:s=S.length:=by omega
  rw [hse] at d1
  rw [hse,SW,<- hnx]
  (refine Wu (an @A3 @d1) ?_;(repeat clear hK K);repeat refine kq fun K hK=>?_)
  refine WC ?_
  (refine Wx ?_;repeat clear hK K)
  (refine Wt ?_;(repeat clear hK K);repeat refine kq fun K hK=>?_)
  exact RG [0] Tryz.results141 @Af
 have d1:decide ((s:Int)<(S.length:Int))=true:=by simpa using hlt
 have hgS:=gE1 hlt
 have hrl:=hr _ (gE6 hlt)
 have hbs:=hb _ (gE6 hlt)
 have hsc:s<c.length:=by rw [hc];exact hlt
 have hcs:c[s]?=some c[s]:=gE1 hsc
 have gcs:=Am hcs
 have hlb:=JD (Xj S c) hs
 have hbl:=fun t (h:t<s)=>Ur (Xj S c) (n:=S.length) h hs
 have hok:=Cx (Xj S c) s
 have hcnt:=hok.cnt
 have hset:=fun v L m=>SV (Xj S c) (n:=S.length) hlt (v:=v) (L:=L) (m:=m)
 have hS1:S.getD s []=S[s]:=by rw [gE2,hgS];rfl
 generalize hB:Ym (Xj S c) S.length s=B at *
 have hset2:∀ v w:Int,(B.set s v).set s w=B.set s w:=fun v w=>by simp
 (refine Wu (an @A3 @d1) ?_;(repeat clear hK K);repeat refine kq fun K hK=>?_)
 refine WB ?_
 (refine Cn (an @A5 (an @hlb @AK)) ?_;(repeat clear hK K);repeat refine kq fun K hK=>?_)
 refine A8 (fun x:Nat × Int=>{ tm:=[(0,.a (.c (.t 1 (Ah S)))),(1,.a (.c (.t 1 (Ab c)))),(5,.a (.c (.s 0 S.length))),(6,.i (Xh (Xj S c) s).2),(7,.i s),(8,.i x.1)],hp:=[.r ⟨3,1,true,A7 (B.set s x.2)⟩],n:=85,pin:=0 }) (fun x=>x.1<=s/\((x.2 = -1/\∀ u,u<x.1->Xj S c u ≠ Xj S c s)\/∃ t,x.1=t+1/\Xj S c t=Xj S c s/\(∀ u,u<t->Xj S c u ≠ Xj S c s)/\x.2=(Xh (Xj S c) s).1.getD t 0)) (fun x=>s - x.1) (0,-1) ?_ ?_ ?_
 ·exact ⟨by simp,.inl ⟨rfl,fun u h=>by simp at h⟩⟩
 ·exact WE
 rintro ⟨t,v⟩ ⟨ht,hv⟩ K hK
 simp only at ht hv
 have gv:(A7 (B.set s v))[s]?=some (.v (.int .i64 v)):=Aq (gEc (by omega))
 by_cases hgo:t<s/\v<0
 rotate_left
 ·have hcond:(decide ((t:Int)<(s:Int))=true/\decide (v<0)=false)\/decide ((t:Int)<(s:Int))=false:=by
   by_cases hts:t<s
   ·left;exact ⟨by simpa using hts,by simp;exact Int.not_lt.1 fun h=>hgo ⟨hts,h⟩⟩
   right;simpa using hts
  rcases hcond with ⟨d2,d3⟩ | d2
  rotate_left
  ·(refine Wu @d2 ?_;(repeat clear hK K);repeat refine kq fun K hK=>?_)
   refine WC ?_
   (refine Wx ?_;repeat clear hK K)
   rcases hv with ⟨hve,hno⟩ | ⟨t',h1,h2,h3,h4⟩
   rotate_left
   ·have hnm:=Do (DD (f:=Xj S c) (show t'<s by omega) h2 h3)
    have hst:=hset _ _ _ hnm rfl
    rw [<- h4] at hst
    have h0:=hok.rng t' (by omega)
    have d4:decide (v<0)=false:=by simp;omega
    rw [hst]
    rw [hst] at gv
    have hlb2:=JD (Xj S c) (n:=S.length) (s:=s+1) (by omega)
    (refine Wu (an @A5 (an @hlb2 (an @gv @d4))) ?_;(repeat clear hK K);repeat refine kq fun K hK=>?_)
    refine WC ?_
    (refine Wt ?_;(repeat clear hK K);repeat refine kq fun K hK=>?_)
    refine WD ?_
    refine hK _ (s+1) (by omega) (by omega) ?_
    rw [hnm]
    exact WE
   have hts:t=s:=by
    rcases Nat.lt_or_ge t s with h | h
    ·exact absurd ⟨h,by omega⟩ hgo
    omega
   rw [hts] at hno
   have hnm:=Dp (DE hno)
   have hst:=hset _ _ _ hnm rfl
   have d4:decide (v<0)=true:=by simp;omega
   (refine Wu (an @A5 (an @List.length_set.{0} (an @hlb (an @gv @d4)))) ?_;(repeat clear hK K);repeat refine kq fun K hK=>?_)
   refine WB ?_
   (refine Cn (an @A5 (an @List.length_set.{0} (an @hlb (an @AK (an @List.set_set.{0} @hst))))) ?_;(repeat clear hK K);repeat refine kq fun K hK=>?_)
   refine WD ?_
   refine hK _ (s+1) (by omega) (by omega) ?_
   rw [hnm]
   exact WE
  (refine Wu (an @d2 (an @A5 (an @List.length_set.{0} (an @hlb (an @gv @d3))))) ?_;(repeat clear hK K);repeat refine kq fun K hK=>?_)
  refine WC ?_
  (refine Wx ?_;repeat clear hK K)
  rcases hv with ⟨hve,hno⟩ | ⟨t',h1,h2,h3,h4⟩
  rotate_left
  ·have hnm:=Do (DD (f:=Xj S c) (show t'<s by omega) h2 h3)
   have hst:=hset _ _ _ hnm rfl
   rw [<- h4] at hst
   have h0:=hok.rng t' (by omega)
   have d4:decide (v<0)=false:=by simp;omega
   rw [hst]
   rw [hst] at gv
   have hlb2:=JD (Xj S c) (n:=S.length) (s:=s+1) (by omega)
   (refine Wu (an @A5 (an @hlb2 (an @gv @d4))) ?_;(repeat clear hK K);repeat refine kq fun K hK=>?_)
   refine WC ?_
   (refine Wt ?_;(repeat clear hK K);repeat refine kq fun K hK=>?_)
   refine WD ?_
   refine hK _ (s+1) (by omega) (by omega) ?_
   rw [hnm]
   exact WE
  have hts:t=s:=by
   rcases Nat.lt_or_ge t s with h | h
   ·exact absurd ⟨h,by omega⟩ hgo
   omega
  rw [hts] at hno
  have hnm:=Dp (DE hno)
  have hst:=hset _ _ _ hnm rfl
  have d4:decide (v<0)=true:=by simp;omega
  (refine Wu (an @A5 (an @List.length_set.{0} (an @hlb (an @gv @d4)))) ?_;(repeat clear hK K);repeat refine kq fun K hK=>?_)
  refine WB ?_
  (refine Cn (an @A5 (an @List.length_set.{0} (an @hlb (an @AK (an @List.set_set.{0} @hst))))) ?_;(repeat clear hK K);repeat refine kq fun K hK=>?_)
  refine WD ?_
  refine hK _ (s+1) (by omega) (by omega) ?_
  rw [hnm]
  exact WE
 obtain ⟨hts,hv0⟩:=hgo
 obtain ⟨hve,hno⟩:v = -1/\∀ u,u<t->Xj S c u ≠ Xj S c s:=by
  rcases hv with h | ⟨t',h1,_,_,h4⟩
  ·exact h
  have:=hok.rng t' (by omega);omega
 have d2:decide ((t:Int)<(s:Int))=true:=by simpa using hts
 have d3:decide (v<0)=true:=by simpa using hv0
 have htl:t<S.length:=by omega
 have hgT:=gE1 htl
 have hrt:=hr _ (gE6 htl)
 have hbt:=hb _ (gE6 htl)
 have gct:=Am (gE1 (show t<c.length by omega))
 have hS2:S.getD t []=S[t]:=by rw [gE2,hgT];rfl
 have gvt:(A7 (B.set s v))[t]?=some (.v (.int .i64 ((Xh (Xj S c) s).1.getD t 0))):=Aq (by rw [gE5 (by omega)];exact hbl t hts)
 have hfe:=hfeq s t hlt htl
 rw [hS1,hS2,gE2,gE2,gE1 (show t<c.length by omega),hcs,Option.getD_some,Option.getD_some] at hfe
 have hgetS:=Ag hgS
 have hgetT:=Ag hgT
 generalize S[s]=rs at *
 generalize S[t]=rt at *
 (refine Wu (an @d2 (an @A5 (an @List.length_set.{0} (an @hlb (an @gv @d3))))) ?_;(repeat clear hK K);repeat refine kq fun K hK=>?_)
 refine WB ?_
 (refine Wt ?_;(repeat clear hK K);repeat refine kq fun K hK=>?_)
 (refine Bz [] [(0,0,0),(1,0,0),(2,0,0),(3,1,19),(4,0,0),(5,0,0),(6,0,0),(7,1,19),(8,0,0),(9,0,0),(10,0,0),(11,0,0),(12,0,0),(13,1,19),(14,0,0),(15,0,0),(16,0,0),(17,1,19),(18,0,0),(19,2,0),(20,0,0),(21,0,0),(22,0,0),(23,0,0),(24,0,0),(25,1,31),(26,0,0),(27,0,0),(28,0,0),(29,1,31),(30,0,0),(31,2,0),(32,0,0)] (by kernel_rfl) (by kernel_rfl) (by intro c st h;simp [Ae,AF,VT] at h) ?_)
 by_cases q1:c[t]=c[s]
 rotate_left
 ·have d4:(c[t] == c[s])=false:=by simpa using q1
  (refine Ws (an @A4 (an @hc (an @gct (an @gcs @d4)))) ?_;repeat clear hK K)
  refine WC ?_
  (refine Wt ?_;(repeat clear hK K);repeat refine kq fun K hK=>?_)
  refine WD ?_
  refine hK _ (t+1,v) ⟨by simp only;omega,.inl ⟨hve,fun u hu e=>?_⟩⟩ (by simp only;omega) ?_
  rotate_left
  ·exact WE
  simp only at hu
  by_cases eu:u=t
  rotate_left
  ·exact hno u (by omega) e
  subst eu
  have h3:=hfe.1 e
  have h4:=q1
  simp [h3] at h4
 have d4:(c[t] == c[s])=true:=by simpa using q1
 (refine Ws (an @A4 (an @hc (an @gct (an @gcs (an @d4 (an @A3 (an @hgetS @hgetT))))))) ?_;repeat clear hK K)
 (refine MD rfl rfl rfl (by simp only [go_sem] <;> rfl) ?_;intro K1 hK1;refine AZ ?_;refine xv [] (Rm rs rt c (by omega) (by omega) (by omega) (by rw [hc];exact hbs) (by rw [hc];exact hbt)) ?_ ?_)
 ·rintro _ _ ⟨rfl,rfl⟩ i o hi hl;simp at hl
 rintro _ _ ⟨rfl,rfl⟩
 (refine Wz ?_;clear hK1 K1)
 cases q2:Iy c rs rt with
 | true=>
  (refine Ws (an @A4 (an @hc (an @gct (an @gcs (an @d4 (an @A3 (an @hgetS @hgetT))))))) ?_;repeat clear hK K)
  (refine MD rfl rfl rfl (by simp only [go_sem] <;> rfl) ?_;intro K1 hK1;refine AZ ?_;refine xv [] (Rm rt rs c (by omega) (by omega) (by omega) (by rw [hc];exact hbt) (by rw [hc];exact hbs)) ?_ ?_)
  ·rintro _ _ ⟨rfl,rfl⟩ i o hi hl;simp at hl
  rintro _ _ ⟨rfl,rfl⟩
  (refine Wz ?_;clear hK1 K1)
  cases q3:Iy c rt rs with
  | true=>
   have hyes:=hfe.2 ⟨q1,q2,q3⟩
   (refine Wr ?_;repeat clear hK K)
   refine WB ?_
   (refine Cn (an @A5 (an @List.length_set.{0} (an @hlb (an @gvt (an @AK @List.set_set.{0}))))) ?_;(repeat clear hK K);repeat refine kq fun K hK=>?_)
   refine WD ?_
   refine hK _ (t+1,(Xh (Xj S c) s).1.getD t 0) ⟨by simp only;omega,.inr ⟨t,rfl,hyes,hno,rfl⟩⟩ (by simp only;omega) ?_
   exact WE
  | false=>
   (refine Wr ?_;repeat clear hK K)
   refine WC ?_
   (refine Wt ?_;(repeat clear hK K);repeat refine kq fun K hK=>?_)
   refine WD ?_
   refine hK _ (t+1,v) ⟨by simp only;omega,.inl ⟨hve,fun u hu e=>?_⟩⟩ (by simp only;omega) ?_
   rotate_left
   ·exact WE
   simp only at hu
   by_cases eu:u=t
   rotate_left
   ·exact hno u (by omega) e
   subst eu
   have h3:=hfe.1 e
   have h4:=q3
   simp [h3] at h4
 | false=>
  (refine Wr ?_;repeat clear hK K)
  refine WC ?_
  (refine Wt ?_;(repeat clear hK K);repeat refine kq fun K hK=>?_)
  refine WD ?_
  refine hK _ (t+1,v) ⟨by simp only;omega,.inl ⟨hve,fun u hu e=>?_⟩⟩ (by simp only;omega) ?_
  rotate_left
  ·exact WE
  simp only at hu
  by_cases eu:u=t
  rotate_left
  ·exact hno u (by omega) e
  subst eu
  have h3:=hfe.1 e
  have h4:=q2
  simp [h3] at h4
end Go.Proofs.YtjijjfkalheokaaGreatDoor
namespace Go.Proofs.YtjijjfkalheokaaGreatDoor
set_option linter.unusedVariables false
set_option linter.unusedSimpArgs false
open Go.RowKit
set_option maxRecDepth 100000

end Go.Proofs.YtjijjfkalheokaaGreatDoor
namespace Go.Proofs.YtjijjfkalheokaaGreatDoor
set_option linter.unusedVariables false
set_option linter.unusedSimpArgs false
open Go.RowKit
set_option maxRecDepth 100000

theorem Qz (xs ys:List Int) (hn:xs.length<=140737488355328) (hm:ys.length<=140737488355328):FC Tryz.prog 46 [As xs,As ys] [] (fun r o=>o=[]/\r=.b (decide (xs=ys))):=by
 refine A6 Tryz.func46 rfl (by rw [Tryz.ntmps46];simp) ?_
 rw [Tryz.ntmps46]
 simp only [Bf,As]
 (refine Wu @A4 ?_;(repeat clear hK K);repeat refine kq fun K hK=>?_)
 (refine At ?_;intro X Y hX hY;simp only [go_sem])
 refine ⟨fun h=>hX ?_,fun h=>hY ?_⟩
 ·clear hX hY X Y
  (refine Wt ?_;(repeat clear hK K);repeat refine kq fun K hK=>?_)
  refine WH Tryz.results46 ?_
  have:xs ≠ ys:=by rintro rfl;simp at h
  simp [this]
 clear hX hY X Y
 have hlen:xs.length=ys.length:=by simp at h;omega
 clear h
 (refine Wt ?_;(repeat clear hK K);repeat refine kq fun K hK=>?_)
 refine A8 (fun k:Nat=>{ tm:=[(0,.a (.c (.t 1 (Ab xs)))),(1,.a (.c (.t 1 (Ab ys)))),(5,.i k)],hp:=[],n:=26,pin:=0 }) (fun k=>k<=xs.length/\xs.take k=ys.take k) (fun k=>xs.length - k) 0 ?_ ?_ ?_
 ·exact ⟨by omega,rfl⟩
 ·exact WE
 rintro k ⟨hk,he⟩ K hK
 (refine Wu @A4 ?_;(repeat clear hK K);repeat refine kq fun K hK=>?_)
 (refine At ?_;intro X Y hX hY;simp only [go_sem])
 refine ⟨fun h=>hX ?_,fun h=>hY ?_⟩
 rotate_left
 ·have hge:k=xs.length:=by simp at h;omega
  clear hX hY X Y
  (refine Wx ?_;repeat clear hK K)
  (refine Wt ?_;(repeat clear hK K);repeat refine kq fun K hK=>?_)
  refine WH Tryz.results46 ?_
  have:xs=ys:=by
   rw [hge,List.take_length,hlen,List.take_length] at he
   exact he
  simp [this]
 have hlt:k<xs.length:=by simpa using h
 have hlt2:k<ys.length:=by omega
 clear hX hY X Y h
 (refine Wt ?_;(repeat clear hK K);repeat refine kq fun K hK=>?_)
 (refine Ac 8 [(0,0),(1,0),(2,0),(3,1),(4,0),(5,0),(6,0),(7,1),(8,2)] (by kernel_rfl) (by kernel_rfl) (by intro c st h;simp [Ae,AF,VT] at h) ?_)
 (refine Wq (an @A4 (an (Am (gE1 hlt)) (Am (gE1 hlt2)))) ?_;repeat clear hK K)
 (refine At ?_;intro X Y hX hY;simp only [go_sem])
 refine ⟨fun h=>hX ?_,fun h=>hY ?_⟩
 ·clear hX hY X Y
  (refine Wt ?_;(repeat clear hK K);repeat refine kq fun K hK=>?_)
  refine WH Tryz.results46 ?_
  have:xs ≠ ys:=by rintro rfl;simp at h
  simp [this]
 clear hX hY X Y
 (refine Wt ?_;(repeat clear hK K);repeat refine kq fun K hK=>?_)
 refine WD ?_
 refine hK _ (k+1) ⟨by omega,?_⟩ (by omega) ?_
 rotate_left
 ·exact WE
 have h1:xs[k]=ys[k]:=by simpa using h
 rw [gE8 hlt,gE8 hlt2,he,h1]
end Go.Proofs.YtjijjfkalheokaaGreatDoor
namespace Go.Proofs.YtjijjfkalheokaaGreatDoor
set_option linter.unusedVariables false
set_option linter.unusedSimpArgs false
open Go.RowKit
set_option maxRecDepth 100000

end Go.Proofs.YtjijjfkalheokaaGreatDoor
namespace Go.Proofs.YtjijjfkalheokaaGreatDoor
set_option linter.unusedVariables false
set_option linter.unusedSimpArgs false
open Go.RowKit
set_option maxRecDepth 100000
attribute [local go_sem] lga C.pl C.one

theorem QA {R:List (List Ar)} (hb:∀ r∈R,∀ a∈r,0<=a.1/\a.1<=1025) {s k:Nat} (hs:s<R.length):(Xm (Xn R s) (R[s].take k)).length<=1026:=by
 obtain ⟨h1,h2,_,_⟩:=Iz hb s (by omega)
 refine Ix (Jo _ _ h1) fun x hx=>?_
 rcases (Gp _ _).1 hx with h | ⟨a,ha,rfl⟩
 ·simpa using h2 x h
 have:=hb _ (gE6 hs) a (List.mem_of_mem_take ha);omega
set_option maxHeartbeats 2000000 in
theorem Us (R:List (List Ar)) (hb:∀ r∈R,∀ a∈r,0<=a.1/\a.1<=1025) (hn:R.length<=1000000) (hr:∀ r∈R,r.length<=1000000):FC Tryz.prog 142 [B7 R] [] (fun r o=>o=[]/\r=As (Xn R R.length)):=by
 refine A6 Tryz.func142 rfl (by rw [Tryz.ntmps142];simp) ?_
 rw [Tryz.ntmps142]
 simp only [Bf,B7]
 (refine Wt ?_;(repeat clear hK K);repeat refine kq fun K hK=>?_)
 (refine Au (Bg (r:=⟨3,1,true,A7 [0]⟩) 1 (Ab [0]) rfl (EM _) (show 0<(1:Nat) by omega)) ?_;simp only [ST.frz,A0.frz,AV.frz,C.frz,Nat.le_refl,List.set_cons_zero,List.set_cons_succ,go_sem,ED,show (if 1<=(Ab [0]).length then C.t 1 (Ab [0]) else C.u)=C.t 1 (Ab [0]) from rfl])
 refine Au (A9 [0] rfl rfl) ?_
 (try simp only [List.set_nil,List.take_nil,List.take_zero,List.map_append,go_sem])
 have e0:Ab [0]=Ab (Xn R 0):=rfl
 rw [e0]
 refine A8 (fun s:Nat=>{ tm:=[(1,.a (.c (.p 0 0))),(3,.a (.c (.t 1 (Ab (Xn R s))))),(4,.i s)],hp:=[.r ⟨25,1,false,[.t 1 (Ah R)]⟩],n:=36,pin:=0 }) (fun s=>s<=R.length) (fun s=>R.length - s) 0 ?_ ?_ ?_
 ·omega
 ·exact WE
 rintro s hs K hK
 by_cases hlt:s<R.length
 rotate_left
 ·have d1:decide ((s:Int)<(R.length:Int))=false:=by simpa using hlt
  have hse:s=R.length:=by omega
  rw [hse] at d1
  rw [hse]
  (refine Wu (an @A3 @d1) ?_;(repeat clear hK K);repeat refine kq fun K hK=>?_)
  refine WC ?_
  (refine Wx ?_;repeat clear hK K)
  (refine Wt ?_;(repeat clear hK K);repeat refine kq fun K hK=>?_)
  ((try refine Av ?_);(try simp only [Ae,AF]);refine B6 (A9 [] rfl rfl) ?_;(try simp only [List.set_nil,List.take_nil,List.take_zero,List.map_append,go_sem]);((try refine Av ?_);(try refine Aa ?_);(try simp only [Ae,AF]);refine Bj (by first | exact .inl rfl | exact .inr rfl) rfl ?_;simp only [VU,Dy,Du,DL,Tryz.results142,go_sem,true_and,and_true,As]))
 have d1:decide ((s:Int)<(R.length:Int))=true:=by simpa using hlt
 have hgR:=gE1 hlt
 have hrl:=hr _ (gE6 hlt)
 have hev:=fun k=>QA hb (k:=k) hlt
 have hsu:=KL hlt
 generalize R[s]=row at *
 (refine Wu (an @A3 @d1) ?_;(repeat clear hK K);repeat refine kq fun K hK=>?_)
 refine WB ?_
 (refine Wt ?_;(repeat clear hK K);repeat refine kq fun K hK=>?_)
 refine A8 (fun k:Nat=>{ tm:=[(1,.a (.c (.p 0 0))),(3,.a (.c (.t 1 (Ab (Xm (Xn R s) (row.take k)))))),(4,.i s),(5,.i k)],hp:=[.r ⟨25,1,false,[.t 1 (Ah R)]⟩],n:=36,pin:=0 }) (fun k=>k<=row.length) (fun k=>row.length - k) 0 ?_ ?_ ?_
 ·omega
 ·simp only [List.take_zero,Xm,List.foldl_nil]
  exact WE
 rintro k hk K hK
 by_cases hlt2:k<row.length
 rotate_left
 ·have d2:decide ((k:Int)<(row.length:Int))=false:=by simpa using hlt2
  have htr:row.take k=row:=gE7 (by omega)
  rw [htr,<- hsu]
  (refine Wu (an @A3 (an (Ag hgR) (an @A2 (an @Ak @d2)))) ?_;(repeat clear hK K);repeat refine kq fun K hK=>?_)
  refine WC ?_
  (refine Wx ?_;repeat clear hK K)
  (refine Wt ?_;(repeat clear hK K);repeat refine kq fun K hK=>?_)
  refine WD ?_
  refine hK _ (s+1) (by omega) (by omega) ?_
  exact WE
 have d2:decide ((k:Int)<(row.length:Int))=true:=by simpa using hlt2
 have ha0:=CC hlt2
 have hsn:=PY (Xn R s) (row.take k) row[k]
 rw [<- gE8 hlt2] at hsn
 have hql:=hev k
 generalize Xm (Xn R s) (row.take k)=q at *
 (refine Wu (an @A3 (an (Ag hgR) (an @A2 (an @Ak @d2)))) ?_;(repeat clear hK K);repeat refine kq fun K hK=>?_)
 refine WB ?_
 (refine Wu (an @A3 (an (Ag hgR) (an @A2 (an @Ak @ha0)))) ?_;(repeat clear hK K);repeat refine kq fun K hK=>?_)
 (refine Wy (Ns q row[k].1 (by omega)) ?_;intro K1 hK1)
 rintro _ _ ⟨rfl,rfl⟩
 (refine Wz ?_;clear hK1 K1)
 (refine Wt ?_;(repeat clear hK K);repeat refine kq fun K hK=>?_)
 refine WD ?_
 refine hK _ (k+1) (by omega) (by omega) ?_
 rw [hsn]
 exact WE
noncomputable def Yn (R:List (List Ar)) (Ev:List Int) (k:Nat):List (List Ar):=XM R Ev k++List.replicate (R.length - k) []
theorem SX {R:List (List Ar)} {Ev:List Int} {k:Nat} (h:k<=R.length):(Yn R Ev k).length=R.length:=by simp [Yn,Fc];omega
theorem V3 {R:List (List Ar)} {Ev:List Int} {k:Nat} (h:k<R.length):(Yn R Ev k).set k []=Yn R Ev k:=by
 obtain ⟨q,hq⟩:∃ q,R.length - k=q+1:=⟨R.length - k - 1,by omega⟩
 unfold Yn
 rw [hq,List.replicate_succ,List.set_append_right _ _ (by rw [Fc];omega),Fc,Nat.sub_self,List.set_cons_zero]
theorem SY {R:List (List Ar)} {Ev:List Int} {k:Nat} (h:k<R.length):(Yn R Ev k).set k (XL R Ev k)=Yn R Ev (k+1):=by
 obtain ⟨q,hq⟩:∃ q,R.length - k=q+1:=⟨R.length - k - 1,by omega⟩
 have hq2:R.length - (k+1)=q:=by omega
 unfold Yn
 rw [hq,hq2,List.replicate_succ,List.set_append_right _ _ (by rw [Fc];omega),Fc,Nat.sub_self,List.set_cons_zero]
 simp [XM,List.range_succ]
set_option maxHeartbeats 8000000 in
theorem SZ (R:List (List Ar)) (hv:Bv R=true) (hn:R.length<=100) (hr:∀ r∈R,r.length<=1000000):FC Tryz.prog 119 [B7 R,.b false] [] (fun r o=>r=.a (.c (.s 0 R.length))/\o=[.r ⟨42,1,true,AO (C9 R)⟩]):=by
 refine A6 Tryz.func119 rfl (by rw [Tryz.ntmps119];simp) ?_
 rw [Tryz.ntmps119]
 simp only [Bf,B7]
 have hlo:BE R=true:=gEg (gE4 hv).1
 have hbd:=(gE4 hlo).2.2.2
 have hb:∀ r∈R,∀ a∈r,0<=a.1/\a.1<=1025:=fun r hr a ha=>by have:=hbd r hr a ha;omega
 obtain ⟨hE1,hE2,_,_⟩:=Iz hb R.length (Nat.le_refl _)
 have hEl:(Xn R R.length).length<=1026:=Ix hE1 (by simpa using hE2)
 have hsa:C9 R=XM R (Xn R R.length) R.length:=rfl
 (refine Wt ?_;(repeat clear hK K);repeat refine kq fun K hK=>?_)
 (refine Wy (Us R hb (by omega) hr) ?_;intro K1 hK1)
 rintro _ _ ⟨rfl,rfl⟩
 (refine Wz ?_;clear hK1 K1)
 generalize Xn R R.length=Ev at *
 (refine Wu @A3 ?_;(repeat clear hK K);repeat refine kq fun K hK=>?_)
 have e0:List.replicate R.length (C.o (2,46) [])=Aw (Yn R Ev 0):=by simp [Aw,Yn,XM,Ao]
 rw [e0]
 refine A8 (fun s:Nat=>{ tm:=[(1,.b false),(2,.a (.c (.p 0 0))),(5,.a (.c (.t 1 (Ab Ev)))),(6,.a (.c (.s 1 R.length))),(7,.i s)],hp:=[.r ⟨25,1,false,[.t 1 (Ah R)]⟩,.r ⟨42,1,true,Aw (Yn R Ev s)⟩],n:=70,pin:=0 }) (fun s=>s<=R.length) (fun s=>R.length - s) 0 ?_ ?_ ?_
 ·omega
 ·exact WE
 rintro s hs K hK
 by_cases hlt:s<R.length
 rotate_left
 ·have d1:decide ((s:Int)<(R.length:Int))=false:=by simpa using hlt
  have hse:s=R.length:=by omega
  have hend:Yn R Ev R.length=C9 R:=by rw [hsa];simp [Yn]
  rw [hse] at d1
  rw [hse,hend]
  (refine Wu (an @A3 @d1) ?_;(repeat clear hK K);repeat refine kq fun K hK=>?_)
  refine WC ?_
  (refine Wx ?_;repeat clear hK K)
  refine Au (Cm 1 rfl) ?_
  simp only [Cl,go_sem]
  (refine Wt ?_;(repeat clear hK K);repeat refine kq fun K hK=>?_)
  exact RG [1] Tryz.results119 @Bs
 have d1:decide ((s:Int)<(R.length:Int))=true:=by simpa using hlt
 have hB0:=V3 (Ev:=Ev) hlt
 have hB1:=SY (Ev:=Ev) hlt
 have hBl:=SX (Ev:=Ev) hs
 have hpl:=fun k=>NK hlo (Ev:=Ev) hlt k
 unfold XL at hB1
 generalize Yn R Ev s=B at *
 (refine Wu (an @A3 @d1) ?_;(repeat clear hK K);repeat refine kq fun K hK=>?_)
 refine WB ?_
 (refine Wt ?_;(repeat clear hK K);repeat refine kq fun K hK=>?_)
 refine A8 (fun i:Nat=>{ tm:=[(1,.b false),(2,.a (.c (.p 0 0))),(5,.a (.c (.t 1 (Ab Ev)))),(6,.a (.c (.s 1 R.length))),(7,.i s),(8,.i i)],hp:=[.r ⟨25,1,false,[.t 1 (Ah R)]⟩,.r ⟨42,1,true,Aw (B.set s (XK R Ev s i))⟩],n:=70,pin:=0 }) (fun i=>i<=Ev.length) (fun i=>Ev.length - i) 0 ?_ ?_ ?_
 ·omega
 ·have e1:XK R Ev s 0=[]:=by simp [XK]
  rw [e1,hB0]
  exact WE
 rintro i hi K hK
 by_cases hli:i<Ev.length
 rotate_left
 ·have d2:decide ((i:Int)<(Ev.length:Int))=false:=by simpa using hli
  have hie:i=Ev.length:=by omega
  rw [hie,hB1]
  rw [hie] at d2
  (refine Wu (an @A4 @d2) ?_;(repeat clear hK K);repeat refine kq fun K hK=>?_)
  refine WC ?_
  (refine Wx ?_;repeat clear hK K)
  (refine Wt ?_;(repeat clear hK K);repeat refine kq fun K hK=>?_)
  refine WD ?_
  refine hK _ (s+1) (by omega) (by omega) ?_
  exact WE
 have d2:decide ((i:Int)<(Ev.length:Int))=true:=by simpa using hli
 have ge:=Am (gE1 hli)
 have hee:=hE2 _ (gE6 hli)
 have hsu:=KR (R:=R) (s:=s) hli
 have hP:=hpl i (by omega)
 have hPb:i*R.length<=1026*100:=Nat.mul_le_mul (by omega) hn
 generalize Ev[i]=e at *
 have hdl:=(NJ hlo (e:=e) hlt).1
 have hsaE:XJ R s e=(XI R s e).map fun u=>(e,u):=rfl
 (refine Wu (an @A4 @d2) ?_;(repeat clear hK K);repeat refine kq fun K hK=>?_)
 refine WB ?_
 (refine Wt ?_;(repeat clear hK K);repeat refine kq fun K hK=>?_)
 (refine Ac 6 [(0,1),(1,0),(2,0),(3,0),(4,0),(5,1),(6,2),(7,0)] (by kernel_rfl) (by kernel_rfl) (by intro c st h;simp [Ae,AF,VT] at h) ?_)
 (refine Wq (an @A4 @ge) ?_;repeat clear hK K)
 (refine MF (Sb R s e hv hlt (by omega) (by omega) (by omega) hr) ?_;intro K1 hK1)
 rintro _ _ ⟨W,hW,rfl,rfl⟩
 have hLL:W=XI R s e:=NI hW (Rh R s e)
 subst hLL
 (refine Wz ?_;clear hK1 K1)
 (refine Wp ?_;repeat clear hK K)
 (refine Wt ?_;(repeat clear hK K);repeat refine kq fun K hK=>?_)
 refine WC ?_
 (refine Wt ?_;(repeat clear hK K);repeat refine kq fun K hK=>?_)
 generalize XI R s e=L at *
 (refine Wt ?_;(repeat clear hK K);repeat refine kq fun K hK=>?_)
 refine A8 (fun k:Nat=>{ tm:=[(1,.b false),(2,.a (.c (.p 0 0))),(5,.a (.c (.t 1 (Ab Ev)))),(6,.a (.c (.s 1 R.length))),(7,.i s),(8,.i i),(9,.a (.c (.t 1 (Ab L)))),(10,.i k)],hp:=[.r ⟨25,1,false,[.t 1 (Ah R)]⟩,.r ⟨42,1,true,Aw (B.set s (XK R Ev s i++(L.take k).map fun u=>(e,u)))⟩],n:=70,pin:=0 }) (fun k=>k<=L.length) (fun k=>L.length - k) 0 ?_ ?_ ?_
 ·omega
 ·simp only [List.take_zero,List.map_nil,List.append_nil]
  exact WE
 rintro k hk K hK
 by_cases hlk:k<L.length
 rotate_left
 ·have d3:decide ((k:Int)<(L.length:Int))=false:=by simpa using hlk
  have htk:L.take k=L:=gE7 (by omega)
  rw [htk,<- hsaE,<- hsu]
  (refine Wu (an @A4 @d3) ?_;(repeat clear hK K);repeat refine kq fun K hK=>?_)
  refine WC ?_
  (refine Wx ?_;repeat clear hK K)
  (refine Wt ?_;(repeat clear hK K);repeat refine kq fun K hK=>?_)
  refine WD ?_
  refine hK _ (i+1) (by omega) (by omega) ?_
  exact WE
 have d3:decide ((k:Int)<(L.length:Int))=true:=by simpa using hlk
 have gl:=Am (gE1 hlk)
 have hsn:XK R Ev s i++(L.take (k+1)).map (fun u=>(e,u))=(XK R Ev s i++(L.take k).map fun u=>(e,u))++[(e,L[k])]:=by
  rw [gE8 hlk,List.map_append,List.append_assoc];rfl
 have hol:(XK R Ev s i++(L.take k).map fun u=>(e,u)).length<=200000:=by simp;omega
 generalize XK R Ev s i++(L.take k).map (fun u=>(e,u))=oc at *
 have hgo:(B.set s oc)[s]?=some oc:=gEc (by omega)
 have hsl:(B.set s oc).length=R.length:=by simp [hBl]
 (refine Wu (an @A4 @d3) ?_;(repeat clear hK K);repeat refine kq fun K hK=>?_)
 refine WB ?_
 (refine Wt ?_;(repeat clear hK K);repeat refine kq fun K hK=>?_)
 (refine AJ [] (.m 0 0 0 (.m 1 0 0 (.m 2 0 0 (.m 3 0 0 (.m 4 0 0 (.m 5 1 16 (.m 6 0 0 (.m 7 0 0 (.m 8 0 0 (.m 9 1 15 (.m 10 0 0 (.m 11 0 0 (.m 12 0 0 (.m 13 1 15 (.m 14 0 0 (.a 15 (.a 16 (.m 17 0 0 (.a 18 .e))))))))))))))))))) (by kernel_rfl) (by kernel_rfl) (by intro c st h;simp [Ae,AF,VT] at h) ?_)
 (refine Ww (an @AB (an (B8 hgo) (an @hsl (an @A4 (an @ge @gl))))) ?_;repeat clear hK K)
 (refine Wj rfl rfl ?_;intro K1 hK1;refine Bx rfl ?_;simp only [go_sem];(first | refine hK1 _ ?_ | refine AD (hK1 _ ?_));clear hK1 K1)
 (refine Ga rfl rfl rfl ?_;intro K1 hK1;refine CK rfl rfl rfl rfl (by first | rfl | simp only [CQ,List.getD_cons_zero,List.getD_cons_succ,hne,List.isEmpty_cons,Bool.not_false,Bool.true_and,Bool.and_true,Bool.and_self]) rfl ?_;simp only [go_sem,Cp,A2,Ak,BF,B8 hgo];(first | refine hK1 _ ?_ | refine AD (hK1 _ ?_));clear hK1 K1)
 (refine Ww (an @AB @hsl) ?_;repeat clear hK K)
 (refine Wk rfl rfl rfl rfl ?_;intro K1 hK1;refine AP rfl ?_;simp only [go_sem,AB,List.length_set,CV,hsl];(first | refine hK1 _ ?_ | refine AD (hK1 _ ?_));clear hK1 K1)
 refine CL ⟨by simp,by simp,?_⟩
 (try simp only [Ae,AF])
 refine hK _ ?_
 clear hK K
 have hj6:((Aw (B.set s oc)).set s (C.s 3 (oc.length+1)))[s]?=some (.s 3 (oc.length+1)):=by rw [gEc (by rw [AB];omega)]
 have hset6:((Aw (B.set s oc)).set s (C.s 3 (oc.length+1))).set s (.o (2,46) (Ao (oc++[(e,L[k])])))=Aw (B.set s (oc++[(e,L[k])])):=by rw [CV,C3,List.set_set]
 refine Au (AR (r:=⟨46,2,true,Ax (oc++[(e,L[k])])⟩) (ri:=⟨42,1,true,(Aw (B.set s oc)).set s (C.s 3 (oc.length+1))⟩) (ts:=Ao (oc++[(e,L[k])])) 1 s 3 (oc.length+1) (by decide) rfl hj6 rfl rfl (show 0<2 by omega) (by rw [Ap];simp) (Dl _)) ?_
 simp only [hset6,go_sem]
 (refine Wt ?_;(repeat clear hK K);repeat refine kq fun K hK=>?_)
 refine WD ?_
 refine hK _ (k+1) (by omega) (by omega) ?_
 refine Le.trans (A9 [0,1] rfl rfl) ?_
 (try simp only [List.set_nil,List.take_nil,List.take_zero,List.map_append,go_sem])
 (try simp only [Ch])
 rw [hsn]
 exact WE
theorem T1 (R:List (List Ar)) (hv:Bv R=true) (hn:R.length<=100) (hr:∀ r∈R,r.length<=1000000):FC Tryz.prog 119 [B7 R,.b false] [] (fun r o=>o=[]/\r=.a (.c (.t 1 (Ah (C9 R))))):=
 (SZ R hv hn hr).frz (CZ _) (by omega) (by rw [A3,(Ht hv hn).1,Nat.mul_one])
theorem Ov {P:Program} {o:Oper} {st:ST} {K:ST->Prop} {t yt:TypeId} {x y:Operand} {a b:Bool} (hu:P.underlying t=some .bool) (hd:VJ o st.n=true) (ho:o.op=.binOp .eql t x y yt) (hx:st.ev x=.b a) (hy:st.ev y=.b b)
  (h:K (st.put o.dst (.b (a == b)))):Stp P o st K:=by
 refine ER (v:=.b (a == b)) hd (fun g w ρ hr hR=>?_) h
 have e1:=hR x
 have e2:=hR y
 rw [hx] at e1
 rw [hy] at e2
 have e1:ρ x=.bool a:=e1
 have e2:ρ y=.bool b:=e2
 refine ⟨.bool (a == b),?_,rfl⟩
 obtain ⟨dst,op,ty,pos,af,gd⟩:=o
 simp only at ho
 subst ho
 simp only [execOp,e1,e2]
 simp [eqGuard,binOp,MA hu]
theorem Ox {P:Program} {o:Oper} {st:ST} {K:ST->Prop} {t yt:TypeId} {x y:Operand} {a b:Bool} (hu:P.underlying t=some .bool) (hd:VJ o st.n=true) (ho:o.op=.binOp .neq t x y yt) (hx:st.ev x=.b a) (hy:st.ev y=.b b)
  (h:K (st.put o.dst (.b (!(a == b))))):Stp P o st K:=by
 refine ER (v:=.b (!(a == b))) hd (fun g w ρ hr hR=>?_) h
 have e1:=hR x
 have e2:=hR y
 rw [hx] at e1
 rw [hy] at e2
 have e1:ρ x=.bool a:=e1
 have e2:ρ y=.bool b:=e2
 refine ⟨.bool (!(a == b)),?_,rfl⟩
 obtain ⟨dst,op,ty,pos,af,gd⟩:=o
 simp only at ho
 subst ho
 simp only [execOp,e1,e2]
 simp [eqGuard,binOp,MA hu]
theorem T2 (xs:List (List Int)) (n:Nat):(CE xs).take n=CE (xs.take n):=by simp [CE,List.map_take]
theorem T3 (xs:List (List Int)) (x:List Int):CE xs++[.t 1 (Ab x)]=CE (xs++[x]):=by simp [CE]
theorem Oy (S:List (List Ar)) (c:List Int) (hn:S.length<=1000000) (hr:∀ r∈S,r.length<=1000000) (hc:c.length=S.length) (hb:∀ r∈S,∀ a∈r,0<=a.2/\a.2<(S.length:Int)):FC Tryz.prog 141 [.a (.c (.t 1 (Ah S))),As c] [] (fun r o=>o=[]/\r=.a (.c (.t 1 (Ab (Xk S c))))):=
 (Qy S c hn hr hc hb).frz (EM _) (by omega) (by rw [A4,(NB S c).len,Nat.mul_one])
def Yo (S:List (List Ar)) (c:List Int) (H:List (List Int)):Prop:=∃ k,H.length=k+1/\H[k]?=some (Xl S c k)/\Nrm S.length (Xl S c k)/\k<=S.length/\Xk S (Xl S c k)=Xl S c k
set_option maxHeartbeats 2000000 in
theorem Oz (S:List (List Ar)) (c:List Int) (hn:S.length<=1000000) (hr:∀ r∈S,r.length<=1000000) (hc:Nrm S.length c) (hb:∀ r∈S,∀ a∈r,0<=a.2/\a.2<(S.length:Int)):FC Tryz.prog 118 [.a (.c (.t 1 (Ah S))),As c] [] (fun r o=>∃ H,Yo S c H/\r=.a (.c (.s 0 H.length))/\o=[.r ⟨22,1,true,CE H⟩]):=by
 refine A6 Tryz.func118 rfl (by rw [Tryz.ntmps118];simp) ?_
 rw [Tryz.ntmps118]
 simp only [Bf,As]
 (refine Wt ?_;(repeat clear hK K);repeat refine kq fun K hK=>?_)
 refine A8 (fun x:Nat × List (List Int)=>{ tm:=[(0,.a (.c (.t 1 (Ah S)))),(5,.a (.c (.s 0 x.2.length)))],hp:=[.r ⟨22,1,true,CE x.2⟩],n:=27,pin:=0 }) (fun x=>x.2.length=x.1+1/\x.2[x.1]?=some (Xl S c x.1)/\Nrm S.length (Xl S c x.1)/\x.1<=F9 S.length (Xl S c x.1)) (fun x=>S.length+1 - F9 S.length (Xl S c x.1)) (0,[c]) ?_ ?_ ?_
 ·exact ⟨rfl,rfl,hc,Nat.zero_le _⟩
 ·have e0:[C.t 1 (Ab c)]=CE [c]:=rfl
  simp only [e0,List.length_cons,List.length_nil]
  exact WE
 rintro ⟨k,H⟩ ⟨hl,hg,hN,hk⟩ K hK
 simp only at hl hg hN hk ⊢
 have hcn:=KK S.length (Xl S c k)
 have hit:Xl S c (k+1)=Xk S (Xl S c k):=rfl
 have hnl:=U4 hN
 have hnn:=NB S (Xl S c k)
 have hNl:=hN.len
 have e1:((H.length:Int) - 1)=(k:Int):=by omega
 have gl:(CE H)[k]?=some (.t 1 (Ab (Xl S c k))):=Na hg
 have hsp:=Oy S (Xl S c k) hn hr hNl hb
 generalize hd:Xl S c k=d at *
 (refine Wu (an @e1 (an @Ir @gl)) ?_;(repeat clear hK K);repeat refine kq fun K hK=>?_)
 (refine Wy hsp ?_;intro K1 hK1)
 rintro _ _ ⟨rfl,rfl⟩
 (refine Wz ?_;clear hK1 K1)
 (refine Wt ?_;(repeat clear hK K);repeat refine kq fun K hK=>?_)
 (refine Wy (Qz d (Xk S d) (by omega) (by have:=hnn.len;omega)) ?_;intro K1 hK1)
 rintro _ _ ⟨rfl,rfl⟩
 (refine Wz ?_;clear hK1 K1)
 by_cases he:d=Xk S d
 ·have d1:decide (d=Xk S d)=true:=by simpa using he
  rw [d1]
  (refine Wt ?_;(repeat clear hK K);repeat refine kq fun K hK=>?_)
  refine WB ?_
  (refine Wt ?_;(repeat clear hK K);repeat refine kq fun K hK=>?_)
  refine WG [0] Tryz.results118 @Is ?_
  exact ⟨H,⟨k,hl,by rw [hd];exact hg,by rw [hd];exact hN,by omega,by rw [hd];exact he.symm⟩,rfl,rfl⟩
 have d1:decide (d=Xk S d)=false:=by simpa using he
 rw [d1]
 have hlt:=hnl (Ne.symm he)
 have hnc:=KK S.length (Xk S d)
 (refine Wt ?_;(repeat clear hK K);repeat refine kq fun K hK=>?_)
 refine WC ?_
 (refine Wu (an @T2 (an @T3 (an @BL (an @Ir @List.take_length.{0})))) ?_;(repeat clear hK K);repeat refine kq fun K hK=>?_)
 refine WD ?_
 refine hK _ (k+1,H++[Xk S d]) ⟨by simp [hl],?_,?_,?_⟩ ?_ ?_
 ·simp only
  rw [hit,gEb (by omega),hl,Nat.sub_self];rfl
 ·simp only;rw [hit];exact hnn
 ·simp only;rw [hit];omega
 ·simp only;rw [hit];omega
 refine Le.trans (A9 [2] rfl rfl) ?_
 (try simp only [List.set_nil,List.take_nil,List.take_zero,List.map_append,go_sem])
 (try simp only [Is])
 simp only [List.length_append,List.length_singleton]
 exact WE
theorem LZ (S:List (List Ar)) (c:List Int) (hn:S.length<=1000000) (hr:∀ r∈S,r.length<=1000000) (hc:Nrm S.length c) (hb:∀ r∈S,∀ a∈r,0<=a.2/\a.2<(S.length:Int)):FC Tryz.prog 118 [.a (.c (.t 1 (Ah S))),As c] [] (fun r o=>∃ H,Yo S c H/\o=[]/\r=.a (.c (.t 1 (Co H)))):=
 (Oz S c hn hr hc hb).frzP (fun H=>PQ H) (by omega) (fun H _=>by rw [BL,Nat.mul_one])
def Yp (B:List Bool) (n s:Nat):List Int:=Xv B s++List.replicate (n - s) 0
theorem T4 {B:List Bool} {n s:Nat} (h:s<=n):(Yp B n s).length=n:=by simp [Yp,Fa];omega
theorem L7 {B:List Bool} {n s:Nat} (h:s<n):(Yp B n s).set s (Xu B s)=Yp B n (s+1):=by
 obtain ⟨q,hq⟩:∃ q,n - s=q+1:=⟨n - s - 1,by omega⟩
 have hq2:n - (s+1)=q:=by omega
 unfold Yp
 rw [hq,hq2,List.replicate_succ,List.set_append_right _ _ (by rw [Fa];omega),Fa,Nat.sub_self,List.set_cons_zero]
 simp [Xv,List.range_succ]
theorem QB {B:List Bool} {n s:Nat} (h:s<n) (h0:Xu B s=0):Yp B n s=Yp B n (s+1):=by
 rw [<- L7 h,h0]
 obtain ⟨q,hq⟩:∃ q,n - s=q+1:=⟨n - s - 1,by omega⟩
 unfold Yp
 rw [hq,List.replicate_succ,List.set_append_right _ _ (by rw [Fa];omega),Fa,Nat.sub_self,List.set_cons_zero]
def WkC (R:List (List Ar)) (c:List Int):Prop:=∃ B,DvL R B/\FxS (C9 R) (Xv B R.length) c
set_option maxHeartbeats 2000000 in
theorem T5 (R:List (List Ar)) (hv:Bv R=true) (hn:R.length<=100) (hr:∀ r∈R,r.length<=1000000):FC Tryz.prog 90 [B7 R,.b false] [] (fun r o=>∃ c,WkC R c/\Nrm R.length c/\o=[]/\r=As c):=by
 refine A6 Tryz.func90 rfl (by rw [Tryz.ntmps90];simp) ?_
 rw [Tryz.ntmps90]
 simp only [Bf,B7]
 have hlo:BE R=true:=gEg (gE4 hv).1
 have h1:1<=R.length:=(gE4 hlo).1
 (refine Wt ?_;(repeat clear hK K);repeat refine kq fun K hK=>?_)
 (refine Wy (Kz R hv (by omega) hr) ?_;intro K1 hK1)
 rintro _ _ ⟨B,hB,rfl,rfl⟩
 (refine Wz ?_;clear hK1 K1)
 have hBl:=hB.1
 have hB2:∀ s,s<R.length->B[s]?=some (B.getD s false):=fun s hs=>by rw [gE2,gE1 (by omega)];rfl
 (refine Wu @A3 ?_;(repeat clear hK K);repeat refine kq fun K hK=>?_)
 have e0:List.replicate R.length (C.v (.int .i64 0))=A7 (Yp B R.length 0):=by simp [A7,Yp,Xv]
 rw [e0]
 refine A8 (fun s:Nat=>{ tm:=[(1,.b false),(2,.a (.c (.p 0 0))),(5,.a (.c (.t 1 (X6 B)))),(6,.a (.c (.s 1 R.length))),(7,.i s)],hp:=[.r ⟨25,1,false,[.t 1 (Ah R)]⟩,.r ⟨3,1,true,A7 (Yp B R.length s)⟩],n:=43,pin:=0 }) (fun s=>s<=R.length) (fun s=>R.length - s) 0 ?_ ?_ ?_
 ·omega
 ·exact WE
 rintro s hs K hK
 by_cases hlt:s<R.length
 rotate_left
 ·have d1:decide ((s:Int)<(R.length:Int))=false:=by simpa using hlt
  have hse:s=R.length:=by omega
  have hend:Yp B R.length R.length=Xv B R.length:=by simp [Yp]
  rw [hse] at d1
  rw [hse,hend]
  (refine Wu @d1 ?_;(repeat clear hK K);repeat refine kq fun K hK=>?_)
  refine WC ?_
  (refine Wx ?_;repeat clear hK K)
  have hcl:=Fa B R.length
  have hcn:=NC B h1
  have htk:(Ab (Xv B R.length)).take R.length=Ab (Xv B R.length):=gE7 (by rw [A4];omega)
  have hif:(if R.length<=(Ab (Xv B R.length)).length then C.t 1 (Ab (Xv B R.length)) else C.u)=C.t 1 (Ab (Xv B R.length)):=if_pos (by rw [A4];omega)
  (refine Au (Bg (r:=⟨3,1,true,A7 (Xv B R.length)⟩) 1 (Ab (Xv B R.length)) rfl (EM _) (show 0<(1:Nat) by omega)) ?_;simp only [ST.frz,A0.frz,AV.frz,C.frz,Nat.le_refl,List.set_cons_zero,List.set_cons_succ,go_sem,htk,hif])
  obtain ⟨hSl,hSr⟩:=Ht hv hn
  (refine Wt ?_;(repeat clear hK K);repeat refine kq fun K hK=>?_)
  (refine Wy (T1 R hv hn hr) ?_;intro K1 hK1)
  rintro _ _ ⟨rfl,rfl⟩
  (refine Wz ?_;clear hK1 K1)
  (refine Wt ?_;(repeat clear hK K);repeat refine kq fun K hK=>?_)
  (refine Wy (LZ (C9 R) (Xv B R.length) (by omega) (fun r h=>(hSr r h).1) (by rw [hSl];exact hcn) (fun r h a ha=>by rw [hSl];exact (hSr r h).2 a ha)) ?_;intro K1 hK1)
  rintro _ _ ⟨H,⟨k,hH1,hH2,hH3,hH4,hH5⟩,rfl,rfl⟩
  (refine Wz ?_;clear hK1 K1)
  have e1:((H.length:Int) - 1)=(k:Int):=by omega
  have gl:=DA hH2
  (refine Wu (an @BL (an @e1 @gl)) ?_;(repeat clear hK K);repeat refine kq fun K hK=>?_)
  refine WF [] Tryz.results90 ?_
  exact ⟨_,⟨B,hB,k,rfl,hH5⟩,by have h:=hH3;rw [hSl] at h;exact h,rfl⟩
 have d1:decide ((s:Int)<(R.length:Int))=true:=by simpa using hlt
 have gs:=F7 (hB2 s hlt)
 have g0:=F7 (hB2 0 (by omega))
 have hl:=T4 (B:=B) hs
 have hst:=L7 (B:=B) hlt
 have hz:=QB (B:=B) hlt
 by_cases hq:B.getD s false=B.getD 0 false
 ·have d2:(B.getD s false == B.getD 0 false)=true:=by rw [hq];simp
  have h0:Xu B s=0:=by unfold Xu;rw [if_pos hq]
  (refine Wu @d1 ?_;(repeat clear hK K);repeat refine kq fun K hK=>?_)
  refine WB ?_
  (refine Wt ?_;(repeat clear hK K);repeat refine kq fun K hK=>?_)
  (refine Ac 7 [(0,0),(1,0),(2,0),(3,1),(4,0),(5,0),(6,1),(7,2)] (by kernel_rfl) (by kernel_rfl) (by intro c st h;simp [Ae,AF,VT] at h) ?_)
  (refine Wq (an @BD (an @hBl (an @gs (an @g0 @Int.toNat_zero)))) ?_;repeat clear hK K)
  (refine W1 rfl rfl rfl ?_;intro K1 hK1;refine Ox (a:=B.getD s false) (b:=B.getD 0 false) Tryz.underlying4 rfl rfl (by simp only [go_sem]) (by simp only [go_sem]) ?_;simp only [go_sem,d2,Bool.not_true,Bool.not_false];refine hK1 _ ?_;clear hK1 K1)
  (refine Wp ?_;repeat clear hK K)
  refine WC ?_
  (refine Wt ?_;(repeat clear hK K);repeat refine kq fun K hK=>?_)
  refine WD ?_
  refine hK _ (s+1) (by omega) (by omega) ?_
  rw [hz h0]
  exact WE
 have d2:(B.getD s false == B.getD 0 false)=false:=by simpa using hq
 have h0:Xu B s=1:=by unfold Xu;rw [if_neg hq]
 rw [h0] at hst
 (refine Wu @d1 ?_;(repeat clear hK K);repeat refine kq fun K hK=>?_)
 refine WB ?_
 (refine Wt ?_;(repeat clear hK K);repeat refine kq fun K hK=>?_)
 (refine Ac 7 [(0,0),(1,0),(2,0),(3,1),(4,0),(5,0),(6,1),(7,2)] (by kernel_rfl) (by kernel_rfl) (by intro c st h;simp [Ae,AF,VT] at h) ?_)
 (refine Wq (an @BD (an @hBl (an @gs (an @g0 @Int.toNat_zero)))) ?_;repeat clear hK K)
 (refine W1 rfl rfl rfl ?_;intro K1 hK1;refine Ox (a:=B.getD s false) (b:=B.getD 0 false) Tryz.underlying4 rfl rfl (by simp only [go_sem]) (by simp only [go_sem]) ?_;simp only [go_sem,d2,Bool.not_true,Bool.not_false];refine hK1 _ ?_;clear hK1 K1)
 (refine Wp ?_;repeat clear hK K)
 refine WB ?_
 (refine Cn (an @A5 (an @hl (an @AK @hst))) ?_;(repeat clear hK K);repeat refine kq fun K hK=>?_)
 refine WD ?_
 refine hK _ (s+1) (by omega) (by omega) ?_
 exact WE
theorem Ut (R:List (List Ar)) (hv:Bv R=true) (hn:R.length<=100) (hr:∀ r∈R,r.length<=1000000):FC Tryz.prog 56 [B7 R] [] (fun r o=>∃ c,WkC R c/\Nrm R.length c/\o=[]/\r=As c):=by
 refine A6 Tryz.func56 rfl (by rw [Tryz.ntmps56];simp) ?_
 rw [Tryz.ntmps56]
 simp only [Bf,B7]
 (refine Wt ?_;(repeat clear hK K);repeat refine kq fun K hK=>?_)
 (refine Wy (C7 R (by omega) (fun r h=>by have:=hr r h;omega)) ?_;intro K1 hK1)
 rintro _ _ ⟨rfl,rfl⟩
 (refine Wz ?_;clear hK1 K1)
 (refine Wu (an @hv @Bool.not_true) ?_;(repeat clear hK K);repeat refine kq fun K hK=>?_)
 refine WC ?_
 (refine Wt ?_;(repeat clear hK K);repeat refine kq fun K hK=>?_)
 (refine Wy (T5 R hv hn hr) ?_;intro K1 hK1)
 rintro _ _ ⟨c,hc,hN,rfl,rfl⟩
 (refine Wz ?_;clear hK1 K1)
 (refine Wt ?_;(repeat clear hK K);repeat refine kq fun K hK=>?_)
 ((try refine Av ?_);(try simp only [Ae,AF]);refine B6 (A9 [] rfl rfl) ?_;(try simp only [List.set_nil,List.take_nil,List.take_zero,List.map_append,go_sem]);((try refine Av ?_);(try refine Aa ?_);(try simp only [Ae,AF]);refine Bj (by first | exact .inl rfl | exact .inr rfl) rfl ?_;simp only [VU,Dy,Du,DL,Tryz.results56,go_sem,true_and,and_true,As]))
 exact ⟨c,hc,hN,rfl⟩
end Go.Proofs.YtjijjfkalheokaaGreatDoor
