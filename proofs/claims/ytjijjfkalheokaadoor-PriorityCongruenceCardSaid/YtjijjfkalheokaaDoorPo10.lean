/- Lemmas. -/
import Derived.Test.YtjijjfkalheokaaDoorZk
import Derived.Test.YtjijjfkalheokaaDoorW07
import Derived.Test.YtjijjfkalheokaaDoorG39
import Derived.Test.YtjijjfkalheokaaDoorG11
import Derived.Test.YtjijjfkalheokaaDoorG70
import Derived.Test.YtjijjfkalheokaaDoorQu1
import Derived.Test.YtjijjfkalheokaaDoorG45
import Derived.Test.YtjijjfkalheokaaDoorMF
namespace Go.Proofs.YtjijjfkalheokaaDoor
set_option linter.unusedVariables false
set_option linter.unusedSimpArgs false
open Go.RowKit
set_option maxRecDepth 100000
attribute [local go_sem] lga C.pl C.one

theorem KA (xs:List Int) (p:Int->Bool) (fn e k e2 k2:Nat) (us vs:List Tr) (hn:xs.length<=140737488355328) (hcal:B0 Tryd.prog fn=true)
  (hf:∀ x∈xs,FC Tryd.prog fn [.i x,.a (.c (.p 0 0)),.a (.c (.p 1 0))] [.r ⟨e,k,false,us.map C.ofTr⟩,.r ⟨e2,k2,false,vs.map C.ofTr⟩] (fun r o=>o=[.r ⟨e,k,false,us.map C.ofTr⟩,.r ⟨e2,k2,false,vs.map C.ofTr⟩]/\r=.b (p x))):
  FC Tryd.prog 55 [AK xs,.a (.c (.f fn [0,1]))] [.r ⟨e,k,false,us.map C.ofTr⟩,.r ⟨e2,k2,false,vs.map C.ofTr⟩] (fun r o=>o=[.r ⟨e,k,false,us.map C.ofTr⟩,.r ⟨e2,k2,false,vs.map C.ofTr⟩]/\∃ n:Int,r=.i n /\ -1<=n/\(0<=n↔xs.any p=true)):=by
 refine A8 Tryd.func55 rfl (by rw [Tryd.ntmps55];simp) ?_
 rw [Tryd.ntmps55]
 simp only [Bs,AK]
 (refine Ud ?_;(repeat clear hK K);repeat refine kq fun K hK=>?_)
 refine Ac (fun i:Nat=>{ tm:=[(0,.a (.c (.t 1 (Af xs)))),(1,.a (.c (.f fn [0,1]))),(7,.i xs.length),(8,.i i)],hp:=[.r ⟨e,k,false,us.map C.ofTr⟩,.r ⟨e2,k2,false,vs.map C.ofTr⟩],n:=19,pin:=2 }) (fun i=>i<=xs.length/\∀ j x,j<i->xs[j]?=some x->p x=false) (fun i=>xs.length - i) 0 ?_ ?_ ?_
 ·exact ⟨by omega,by intro i x hi;omega⟩
 ·refine BG ?_
  simp only [Dl,A3,go_sem]
  simp
 rintro i ⟨hk,hno⟩ K hK
 (refine Ud ?_;(repeat clear hK K);repeat refine kq fun K hK=>?_)
 (refine Aw ?_;intro X Y hX hY;simp only [go_sem])
 refine ⟨fun h=>hX ?_,fun h=>hY ?_⟩
 rotate_left
 ·have hge:i=xs.length:=by simp at h;omega
  clear hX hY X Y
  (refine Uh ?_;repeat clear hK K)
  (refine Ud ?_;(repeat clear hK K);repeat refine kq fun K hK=>?_)
  refine Uq Tryd.results55 ?_
  refine ⟨-1,rfl,by omega,?_⟩
  simp
  intro x hm
  obtain ⟨j,hj⟩:=List.mem_iff_getElem?.1 hm
  exact hno j x (by rw [hge];exact (List.getElem?_eq_some_iff.1 hj).1) hj
 have hlt:i<xs.length:=by simpa using h
 clear hX hY X Y h
 (refine Ue (an @A3 (Ap (gE1 hlt))) ?_;(repeat clear hK K);repeat refine kq fun K hK=>?_)
 (refine A9 rfl ?_;intro K1 hK1;refine As (ids:=[0,1]) [0,1] (hf xs[i] (gE6 hlt)) rfl rfl (by simp only [go_sem]) (by first | assumption | kernel_rfl) rfl rfl (by (simp only [List.map_append,List.append_nil,go_sem]) <;> rfl) (by (simp only [Tx,go_sem]) <;> rfl) ?_ ?_)
 ·rintro _ _ ⟨rfl,rfl⟩;rfl
 rintro _ _ ⟨rfl,rfl⟩
 (refine Uj ?_;clear hK1 K1)
 (refine Ud ?_;(repeat clear hK K);repeat refine kq fun K hK=>?_)
 (refine Aw ?_;intro X Y hX hY;simp only [go_sem])
 refine ⟨fun h=>hX ?_,fun h=>hY ?_⟩
 ·clear hX hY X Y
  (refine Ud ?_;(repeat clear hK K);repeat refine kq fun K hK=>?_)
  refine Uq Tryd.results55 ?_
  exact ⟨i,rfl,by omega,by simp;exact ⟨_,gE6 hlt,h⟩⟩
 clear hX hY X Y
 (refine Ud ?_;(repeat clear hK K);repeat refine kq fun K hK=>?_)
 refine Um ?_
 refine hK _ (i+1) ⟨by omega,fun j x hj hx=>?_⟩ (by omega) ?_
 rotate_left
 ·refine BG ?_
  simp only [Dl,go_sem]
  simp
 by_cases e:j=i
 ·subst e;rw [gE1 hlt] at hx;cases hx;exact h
 exact hno j x (by omega) hx

theorem GP (xs:List Int) (p:Int->Bool) (fn e k e2 k2:Nat) (us vs:List Tr) (hn:xs.length<=140737488355328) (hcal:B0 Tryd.prog fn=true)
  (hf:∀ x∈xs,FC Tryd.prog fn [.i x,.a (.c (.p 0 0)),.a (.c (.p 1 0))] [.r ⟨e,k,false,us.map C.ofTr⟩,.r ⟨e2,k2,false,vs.map C.ofTr⟩] (fun r o=>o=[.r ⟨e,k,false,us.map C.ofTr⟩,.r ⟨e2,k2,false,vs.map C.ofTr⟩]/\r=.b (p x))):
  FC Tryd.prog 30 [AK xs,.a (.c (.f fn [0,1]))] [.r ⟨e,k,false,us.map C.ofTr⟩,.r ⟨e2,k2,false,vs.map C.ofTr⟩] (fun r o=>o=[.r ⟨e,k,false,us.map C.ofTr⟩,.r ⟨e2,k2,false,vs.map C.ofTr⟩]/\r=.b (xs.any p)):=by
 refine A8 Tryd.func30 rfl (by rw [Tryd.ntmps30];simp) ?_
 rw [Tryd.ntmps30]
 simp only [Bs,AK]
 (refine Ud ?_;(repeat clear hK K);repeat refine kq fun K hK=>?_)
 (refine A9 rfl ?_;intro K1 hK1;refine cs [0,1] (KA xs p fn e k e2 k2 us vs hn hcal hf) ?_ ?_)
 ·rintro _ _ ⟨rfl,n,rfl,hn1,hn2⟩;rfl
 rintro _ _ ⟨rfl,n,rfl,hn1,hn2⟩
 (refine Uj ?_;clear hK1 K1)
 (refine Ud ?_;(repeat clear hK K);repeat refine kq fun K hK=>?_)
 have e:decide (n>=0)=xs.any p:=by rw [Bool.eq_iff_iff,decide_eq_true_iff];exact hn2
 refine Uq Tryd.results30 ?_
 simp only [e]
theorem JO {α:Type} (l:List α) (i:Nat) (a b:α):(l.set i a).set i b=l.set i b:=List.set_set ..
def Wc (o:List Ar) (r:List Ar):List Ar:=r.filter fun a=>!(Dd r).any (fun e=>HJ o a.1 e)
def Wd (o:List Ar) (R:List (List Ar)) (k:Nat):List (List Ar):=(R.take k).map (Wc o)++List.replicate (R.length - k) []
theorem QG (o:List Ar) (R:List (List Ar)) (k:Nat) (h:k<=R.length):(Wd o R k).length=R.length:=by simp [Wd];omega
theorem QH {o:List Ar} {R:List (List Ar)} {k:Nat} (h:k<R.length):(Wd o R k)[k]?=some []:=by
 unfold Wd
 rw [gEb (by simp;omega),List.length_map,List.length_take,Nat.min_eq_left (by omega),Nat.sub_self,List.getElem?_replicate,if_pos (by omega)]
theorem Oz {o:List Ar} {R:List (List Ar)} {k:Nat} (h:k<R.length):Wd o R (k+1)=(Wd o R k).set k (Wc o R[k]):=by
 unfold Wd
 rw [List.set_append_right _ _ (by simp;omega),gE8 h,List.map_append,List.append_assoc]
 congr 1
 rw [List.length_map,List.length_take,Nat.min_eq_left (by omega),Nat.sub_self,show R.length - k=(R.length - (k+1))+1 by omega,List.replicate_succ]
 rfl
theorem QI (o:List Ar) (R:List (List Ar)):Wd o R R.length=R.map (Wc o):=by simp [Wd]
theorem MI (o:List Ar) (r:List Ar):(Wc o r).length<=r.length:=List.length_filter_le _ _
theorem MJ (o:List Ar):∀ R:List (List Ar),BP (R.map (Wc o))<=BP R
 | []=>Nat.le_refl _
 | r :: R=>by
  have h1:=MJ o R
  have h2:=MI o r
  simp only [BP,List.map_cons,List.sum_cons] at h1 ⊢
  omega
theorem S0 {R:List (List Ar)} (o:List Ar) (hv:Bg R=true):Br (R.map (Wc o))=true:=by
 have h:=(gE4 hv).1
 have ht:=MJ o R
 refine gEg ⟨by rw [List.length_map];exact h.1,by rw [List.length_map];exact h.2.1,by have:=h.2.2.1;omega,?_⟩
 intro r hr a ha
 obtain ⟨q,hq,rfl⟩:=List.mem_map.1 hr
 rw [List.length_map]
 exact h.2.2.2 q hq a (List.mem_filter.1 ha).1
set_option maxHeartbeats 4000000 in
theorem MK (R:List (List Ar)) (o:List Ar) (hv:Bg R=true) (hn:R.length<=1000000) (hr:∀ r∈R,r.length<=1000000) (hol:o.length<=1000000) (ho:KE o=true) (hs:SortA o) (hh:∀ a∈o,0<=a.2) (hc:∀ a∈o,Da a.1=true):FC Tryd.prog 13 [BS R,CH o] [] (fun r q=>q=[.r ⟨24,1,false,[.t 1 (Ae (CG (R.map (Wc o))).1)]⟩]/\r=.tup [.g [.t 1 (Ae (CG (R.map (Wc o))).1)],.c (.v (.int .i64 0))]):=by
 refine A8 Tryd.func13 rfl (by rw [Tryd.ntmps13];simp) ?_
 rw [Tryd.ntmps13]
 have hlo:Br R=true:=gEg (gE4 hv).1
 have h1:1<=R.length:=(gE4 hlo).1
 have hva:=CC R (by omega) (fun r h=>by have:=hr r h;omega)
 rw [hv] at hva
 have hpo:=QE o (by omega)
 rw [ho] at hpo
 have hin:=fun s (h:s<R.length)=>Iq R s h hn hr
 simp only [Bs,BS,CH] at hva hpo hin ⊢
 (refine Ud ?_;(repeat clear hK K);repeat refine kq fun K hK=>?_)
 (refine Ui hva ?_;intro K1 hK1)
 rintro _ _ ⟨rfl,rfl⟩
 (refine Uj ?_;clear hK1 K1)
 (refine Ue @Bool.not_true ?_;(repeat clear hK K);repeat refine kq fun K hK=>?_)
 (refine Dm rfl rfl (by simp only [go_sem] <;> rfl) ?_;intro K1 hK1;refine (Bu (ids:=[]) (hpo) rfl rfl (by simp only [go_sem]) (by kernel_rfl) (by (simp only [List.append_nil,go_sem]) <;> rfl) ?_).stp)
 rintro _ _ ⟨rfl,rfl⟩
 (refine Uj ?_;clear hK1 K1)
 (refine Ue @Bool.not_true ?_;(repeat clear hK K);repeat refine kq fun K hK=>?_)
 refine Ul ?_
 (refine Ue @A6 ?_;(repeat clear hK K);repeat refine kq fun K hK=>?_)
 have e0:List.replicate R.length (C.o (2,29) [])=BD (Wd o R 0):=by simp [BD,Wd,Al]
 rw [e0]
 refine Ac (fun k:Nat=>{ tm:=[(2,.a (.c (.p 0 0))),(3,.a (.c (.p 1 0))),(4,.a (.c (.p 2 0))),(5,.a (.c (.v (.int .i64 0)))),(6,.a (.c (.s 3 R.length))),(29,.a (.c (.t 1 (Ae R)))),(30,.i R.length),(31,.i k)],hp:=[.r ⟨24,1,false,[.t 1 (Ae R)]⟩,.r ⟨38,1,false,[.t 2 (Al o)]⟩,.r ⟨24,1,false,[.v (.slice none 0 0)]⟩,.r ⟨30,1,true,BD (Wd o R k)⟩],n:=70,pin:=0 }) (fun k=>k<=R.length) (fun k=>R.length - k) 0 ?_ ?_ ?_
 ·omega
 ·exact Un
 rintro k hk K hK
 by_cases hlt:k<R.length
 rotate_left
 ·have d1:decide ((k:Int)<(R.length:Int))=false:=by simpa using hlt
  have hke:k=R.length:=by omega
  subst hke
  rw [QI]
  (refine Ue @d1 ?_;(repeat clear hK K);repeat refine kq fun K hK=>?_)
  refine Ul ?_
  (refine Uh ?_;repeat clear hK K)
  refine B1 (I1 3 rfl) ?_
  simp only [LN,go_sem]
  have hlC:=S0 o hv
  have hrC:∀ r∈R.map (Wc o),r.length<=1000000:=fun r h=>by
   obtain ⟨q,hq,rfl⟩:=List.mem_map.1 h
   have:=MI o q
   have:=hr q hq
   omega
  have hlm:(R.map (Wc o)).length=R.length:=List.length_map _
  generalize R.map (Wc o)=T at *
  have htk:(Ae T).take R.length=Ae T:=gE7 (by rw [A6];omega)
  (refine B1 (Bh (r:=⟨30,1,true,Bd T⟩) 3 (Ae T) rfl (F4 _) (show 0<(1:Nat) by omega)) ?_;simp only [ST.frz,A0.frz,AV.frz,C.frz,Nat.le_refl,List.set_cons_zero,List.set_cons_succ,go_sem,htk,A6,hlm])
  (refine Ud ?_;(repeat clear hK K);repeat refine kq fun K hK=>?_)
  (refine Ui (Hx T hlC (by omega) hrC) ?_;intro K1 hK1)
  rintro _ _ ⟨rfl,rfl⟩
  (refine Uj ?_;clear hK1 K1)
  (refine Nh ?_;(repeat clear hK K);repeat refine kq fun K hK=>?_)
  exact Re [2] Tryd.results13
 have d1:decide ((k:Int)<(R.length:Int))=true:=by simpa using hlt
 have hg:=AQ (gE1 hlt)
 have hsu:=Oz (o:=o) hlt
 have hXl:=QG o R k hk
 have hXg:=QH (o:=o) hlt
 have hrl:=hr _ (gE6 hlt)
 generalize Wd o R k=Z at *
 (refine Ue @d1 ?_;(repeat clear hK K);repeat refine kq fun K hK=>?_)
 refine Uk ?_
 (refine Ue (an @hg @A6) ?_;(repeat clear hK K);repeat refine kq fun K hK=>?_)
 (refine Ui (hin k hlt) ?_;intro K1 hK1)
 rintro _ _ ⟨rfl,rfl⟩
 (simp only [AK,CB,Bw,List.append_nil,List.nil_append,List.length_map,go_sem];refine hK1 _ ?_;clear hK1 K1)
 generalize R[k]=row at *
 have hrw:(Wc o row)=((row.take row.length).filter fun a=>!(Dd row).any (fun e=>HJ o a.1 e)):=by rw [List.take_length];rfl
 rw [hrw] at hsu
 have htk:(Af (Dd row)).take (Dd row).length=Af (Dd row):=gE7 (by rw [A3];exact Nat.le_refl _)
 (refine B3 (Bh (r:=⟨3,1,true,A5 (Dd row)⟩) 4 (Af (Dd row)) rfl (I9 _) (show 0<(1:Nat) by omega)) ?_;simp only [ST.frz,A0.frz,AV.frz,C.frz,Nat.le_refl,List.set_cons_zero,List.set_cons_succ,go_sem,A3,htk])
 (refine Ue (an @A4 @AA) ?_;(repeat clear hK K);repeat refine kq fun K hK=>?_)
 have hZ0:Z=Z.set k ((row.take 0).filter fun a=>!(Dd row).any (fun e=>HJ o a.1 e)):=by
  refine List.ext_getElem? fun j=>?_
  by_cases hj:k=j
  rotate_left
  ·rw [gE5 hj]
  subst hj
  rw [gEc (by omega),hXg];rfl
 refine Ac (fun j:Nat=>{ tm:=[(2,.a (.c (.p 0 0))),(3,.a (.c (.p 1 0))),(4,.a (.c (.p 2 0))),(5,.a (.c (.v (.int .i64 0)))),(6,.a (.c (.s 3 R.length))),(7,.i k),(9,.a (.c (.t 1 (Af (Dd row))))),(29,.a (.c (.t 1 (Ae R)))),(30,.i R.length),(31,.i k),(39,.a (.c (.t 2 (Al row)))),(40,.i row.length),(41,.i j)],hp:=[.r ⟨24,1,false,[.t 1 (Ae R)]⟩,.r ⟨38,1,false,[.t 2 (Al o)]⟩,.r ⟨24,1,false,[.v (.slice none 0 0)]⟩,.r ⟨30,1,true,BD (Z.set k ((row.take j).filter fun a=>!(Dd row).any (fun e=>HJ o a.1 e)))⟩],n:=70,pin:=0 }) (fun j=>j<=row.length) (fun j=>row.length - j) 0 ?_ ?_ ?_
 ·omega
 ·rw [<- hZ0]
  refine Le.trans (Ad [0,1,2,3] rfl rfl) ?_
  (try simp only [List.set_nil,List.take_nil,List.take_zero,List.map_append,go_sem])
  (try simp only [Ea])
  exact Un
 rintro j hj K hK
 by_cases hlj:j<row.length
 rotate_left
 ·have d2:decide ((j:Int)<(row.length:Int))=false:=by simpa using hlj
  have hje:j=row.length:=by omega
  subst hje
  rw [<- hsu]
  (refine Ue @d2 ?_;(repeat clear hK K);repeat refine kq fun K hK=>?_)
  refine Ul ?_
  (refine Uh ?_;repeat clear hK K)
  (refine Ud ?_;(repeat clear hK K);repeat refine kq fun K hK=>?_)
  refine Um ?_
  refine hK _ (k+1) (by omega) (by omega) ?_
  exact Un
 have d2:decide ((j:Int)<(row.length:Int))=true:=by simpa using hlj
 have hat:=AH hlj
 have htj:=gE8 hlj
 obtain ⟨e,t,hya⟩:∃ e t,row[j]=(e,t):=⟨_,_,rfl⟩
 rw [hya] at hat htj
 have hil:=JA row
 have hcf:=GP (Dd row) (fun x=>HJ o e x) 31 38 1 29 2 [Tr.l 2 (Al o)] [Tr.v (.int .i64 e),Tr.v (.int .i64 t)] (by omega) (by kernel_rfl) (fun x _=>RZ o (e,t) x hol hs hh hc)
 simp only [AK,List.map_cons,List.map_nil,go_sem] at hcf
 (refine Ue @d2 ?_;(repeat clear hK K);repeat refine kq fun K hK=>?_)
 refine Uk ?_
 (refine CY (an @hat (an @A4 @AA)) ?_;(repeat clear hK K);repeat refine kq fun K hK=>?_)
 (refine A9 rfl ?_;intro K1 hK1;refine cs [1,4] (hcf) ?_ ?_)
 ·rintro _ _ ⟨rfl,rfl⟩;rfl
 rintro _ _ ⟨rfl,rfl⟩
 (refine Uj ?_;clear hK1 K1)
 (refine Ud ?_;(repeat clear hK K);repeat refine kq fun K hK=>?_)
 (refine Aw ?_;intro X Y hX hY;simp only [go_sem])
 refine ⟨fun h=>hX ?_,fun h=>hY ?_⟩
 rotate_left
 ·have hkp:((row.take (j+1)).filter fun a=>!(Dd row).any (fun e=>HJ o a.1 e))=((row.take j).filter fun a=>!(Dd row).any (fun e=>HJ o a.1 e)):=by
   rw [htj,List.filter_append,List.filter_cons_of_neg (by simpa using h),List.filter_nil,List.append_nil]
  clear hX hY X Y
  (refine Ud ?_;(repeat clear hK K);repeat refine kq fun K hK=>?_)
  refine Um ?_
  refine hK _ (j+1) (by omega) (by omega) ?_
  refine Le.trans (Ad [0,1,2,3] rfl rfl) ?_
  (try simp only [List.set_nil,List.take_nil,List.take_zero,List.map_append,go_sem])
  (try simp only [A7,Ea])
  rw [hkp]
  exact Un
 have hkp:((row.take (j+1)).filter fun a=>!(Dd row).any (fun e=>HJ o a.1 e))=((row.take j).filter fun a=>!(Dd row).any (fun e=>HJ o a.1 e))++[(e,t)]:=by
  rw [htj,List.filter_append,List.filter_cons_of_pos (by simpa using h),List.filter_nil]
 have hcl:((row.take j).filter fun a=>!(Dd row).any (fun e=>HJ o a.1 e)).length<=1000000:=Nat.le_trans (List.length_filter_le _ _) (by rw [List.length_take];omega)
 generalize ((row.take j).filter fun a=>!(Dd row).any (fun e=>HJ o a.1 e))=oc at *
 have hYl:(Z.set k oc).length=R.length:=by rw [List.length_set];exact hXl
 have hgo:(Z.set k oc)[k]?=some oc:=gEc (by omega)
 have hYs:(Z.set k oc).set k (oc++[(e,t)])=Z.set k (oc++[(e,t)]):=List.set_set ..
 generalize Z.set k oc=Y2 at *
 clear hX hY X Y
 (refine B7 [] (.m 0 0 0 (.m 1 0 0 (.m 2 0 0 (.m 3 0 0 (.m 4 0 0 (.m 5 1 8 (.m 6 1 7 (.a 7 (.a 8 (.m 9 0 0 (.a 10 .e))))))))))) (by kernel_rfl) (by kernel_rfl) (by intro c st h;simp [Ai,AX,Tz] at h) ?_)
 (refine Ug (an @D1 (an (FT hgo) @hYl)) ?_;repeat clear hK K)
 (refine U4 rfl rfl ?_;intro K1 hK1;refine BW rfl ?_;simp only [go_sem];(first | refine hK1 _ ?_ | refine AE (hK1 _ ?_));clear hK1 K1)
 (refine Pq rfl rfl rfl ?_;intro K1 hK1;refine Gd rfl rfl rfl rfl (by first | rfl | simp only [Dn,List.getD_cons_zero,List.getD_cons_succ,hne,List.isEmpty_cons,Bool.not_false,Bool.true_and,Bool.and_true,Bool.and_self]) rfl ?_;simp only [go_sem,Lf,A4,AA,K5,FT hgo];(first | refine hK1 _ ?_ | refine AE (hK1 _ ?_));clear hK1 K1)
 (refine Ug (an @D1 @hYl) ?_;repeat clear hK K)
 (refine U5 rfl rfl rfl rfl ?_;intro K1 hK1;refine Ba rfl ?_;simp only [go_sem,D1,List.length_set,JO,hYl];(first | refine hK1 _ ?_ | refine AE (hK1 _ ?_));clear hK1 K1)
 refine CA ⟨by simp,by simp,?_⟩
 (try simp only [Ai,AX])
 refine hK _ ?_
 clear hK K
 have hj6:((BD Y2).set k (C.s 6 (oc.length+1)))[k]?=some (.s 6 (oc.length+1)):=by rw [gEc (by rw [D1];omega)]
 have hset6:((BD Y2).set k (C.s 6 (oc.length+1))).set k (.o (2,29) (Al (oc++[(e,t)])))=BD (Y2.set k (oc++[(e,t)])):=by rw [JO,Km]
 refine B1 (B6 (r:=⟨29,2,true,Ao (oc++[(e,t)])⟩) (ri:=⟨30,1,true,(BD Y2).set k (C.s 6 (oc.length+1))⟩) (ts:=Al (oc++[(e,t)])) 3 k 6 (oc.length+1) (by decide) rfl hj6 rfl rfl (show 0<2 by omega) (by rw [Aq];simp) (Dp _)) ?_
 simp only [hset6,go_sem]
 (refine Ud ?_;(repeat clear hK K);repeat refine kq fun K hK=>?_)
 refine Um ?_
 refine hK _ (j+1) (by omega) (by omega) ?_
 refine Le.trans (Ad [0,1,2,3] rfl rfl) ?_
 (try simp only [List.set_nil,List.take_nil,List.take_zero,List.map_append,go_sem])
 (try simp only [A7,Ea])
 rw [hkp,<- hYs]
 exact Un
theorem Yi:∀ (r:List Ar) (acc:List Int),r.Pairwise (fun a b=>a.1<=b.1)->acc.Pairwise (· < ·)->(∀ x∈acc,∀ a∈r,x<=a.1)->
  (r.foldl CD acc).Pairwise (· < ·)/\∀ x,x∈r.foldl CD acc↔x∈acc\/∃ a∈r,a.1=x:=by
 intro r
 induction r with
 | nil=>intro acc _ h _;exact ⟨h,fun x=>by simp⟩
 | cons a r ih=>
  intro acc hr ha hx
  have hr2:=List.pairwise_cons.1 hr
  have hst:(CD acc a).Pairwise (· < ·)/\(∀ x,x∈CD acc a↔x∈acc\/x=a.1):=by
   unfold CD
   split
   ·rename_i h
    refine ⟨ha,fun x=>⟨.inl,fun h2=>h2.elim id fun e=>?_⟩⟩
    rw [e];exact List.mem_of_getLast? h
   rename_i h
   refine ⟨List.pairwise_append.2 ⟨ha,by simp,fun x h1 y h2=>?_⟩,fun x=>by simp⟩
   simp at h2;subst h2
   have h3:=hx x h1 a (by simp)
   rcases Int.lt_or_eq_of_le h3 with h4 | h4
   ·exact h4
   exfalso
   apply h
   obtain ⟨i,hi,rfl⟩:=List.getElem_of_mem h1
   rw [List.getLast?_eq_getElem?,gE1 (by omega)]
   congr 1
   have hlt:acc.length - 1<acc.length:=by omega
   rcases Nat.lt_or_ge i (acc.length - 1) with h5 | h5
   rotate_left
   ·have:i=acc.length - 1:=by omega
    subst this;exact h4
   have h6:=List.pairwise_iff_getElem.1 ha i (acc.length - 1) hi hlt h5
   have h7:=hx _ (gE6 hlt) a (by simp)
   omega
  rw [List.foldl_cons]
  obtain ⟨q1,q2⟩:=ih (CD acc a) hr2.2 hst.1 (fun x h b hb=>by
   rcases (hst.2 x).1 h with h | h
   ·exact hx x h b (gEf _ hb)
   ·subst h;exact hr2.1 b hb)
  refine ⟨q1,fun x=>?_⟩
  rw [q2,hst.2]
  simp only [List.mem_cons,exists_eq_or_imp]
  rw [or_assoc]
  constructor
  ·rintro (h | h | h)
   ·exact .inl h
   ·exact .inr (.inl h.symm)
   exact .inr (.inr h)
  rintro (h | h | h)
  ·exact .inl h
  ·exact .inr (.inl h.symm)
  exact .inr (.inr h)
theorem XU {r:List Ar} (h:SortA r):r.Pairwise (fun a b=>a.1<=b.1):=h.imp fun {a b} hab=>by rw [BA] at hab;omega
theorem Yj {B:List (List Ar)} (hB:Bg B=true) {t:Nat} (ht:t<B.length) (hd:¬ Dv B t):∃ u,Rc (Uy true B) t u/\Uy true B u=[]:=by
 have hE:=Ce true (gEg (gE4 hB).1:Br B=true)
 by_cases h:∃ u,Rc (Uy true B) t u/\Uy true B u=[]
 ·exact h
 exfalso
 refine hd (Xr hB (P:=fun y=>Rc (Uy true B) t y) (fun y hy hr=>?_) _ t ht (.refl _) (Nat.le_refl _))
 cases e:Uy true B y with
 | nil=>exact absurd ⟨y,hr,e⟩ h
 | cons w l=>
  have hw:w∈Uy true B y:=by rw [e];exact List.mem_cons_self
  exact ⟨w,w,by rw [<- e];exact hw,.refl _,hE _ hy _ hw,hr.tail hw⟩
theorem WO {E:Nat->List Nat} {s u:Nat} (h:E s=[]) (hr:Rc E s u):u=s:=by
 induction hr with
 | refl=>rfl
 | tail _ hw ih=>rw [ih,h] at hw;simp at hw
theorem Yk {A:List (List Ar)} {s:Nat} (h:Uy true A s=[]):¬ Dv A s:=by
 rintro ⟨g,hg,w,hw,_⟩
 rw [WO h hg,h] at hw
 simp at hw
theorem Xd {r:List Ar} (h:SortA r) (x:Int):x∈Dd r↔∃ a∈r,a.1=x:=by
 unfold Dd
 rw [(Yi r [] (XU h) List.Pairwise.nil (by simp)).2 x]
 simp
theorem Xe {A:List (List Ar)} (hA:Bg A=true) (s:Nat):SortA (A.getD s []):=by
 rcases Nat.lt_or_ge s A.length with h | h
 rotate_left
 ·rw [gE2,List.getElem?_eq_none h]
  exact List.Pairwise.nil
 rw [gE2,gE1 h]
 exact (gE4 hA).2 _ (gE6 h)
theorem YC (o:List Ar) (A:List (List Ar)) (s:Nat):(A.map (Wc o)).getD s []=Wc o (A.getD s []):=by
 rw [gE2,List.getElem?_map,gE2]
 cases A[s]? with
 | none=>rfl
 | some r=>rfl
theorem Xf {o:List Ar} {A:List (List Ar)} (hA:Bg A=true) {s:Nat} {a:Ar}:a∈(A.map (Wc o)).getD s []↔a∈A.getD s []/\∀ b∈A.getD s [],HJ o a.1 b.1=false:=by
 rw [YC]
 unfold Wc
 rw [List.mem_filter]
 refine and_congr_right fun _=>?_
 rw [Bool.not_eq_true',List.any_eq_false]
 constructor
 rotate_left
 ·intro h x hx
  obtain ⟨b,hb,rfl⟩:=(Xd (Xe hA s) _).1 hx
  rw [h b hb];simp
 intro h b hb
 have:=h b.1 ((Xd (Xe hA s) _).2 ⟨b,hb,rfl⟩)
 simpa using this
theorem X4 {o:List Ar} {A:List (List Ar)} (hA:Bg A=true):Bg (A.map (Wc o))=true:=by
 refine gEg ⟨gE4 (S0 o hA),fun r hr=>?_⟩
 obtain ⟨q,hq,rfl⟩:=List.mem_map.1 hr
 exact List.Pairwise.sublist List.filter_sublist ((gE4 hA).2 q hq)
section
variable {o : List Ar} {A : List (List Ar)}
theorem Xx (hc:∀ a∈o,2<=a.1) {e:Int} (h:o.any (fun a=>a.1 == e)=false) (x:Int):HJ o e x=false:=by
 unfold HJ
 split
 ·exact h
 refine decide_eq_false fun hm=>?_
 have:=List.any_eq_false.1 h _ hm
 simp at this
theorem Y8 (hc:∀ a∈o,2<=a.1) (hA:Bg A=true) (s w:Nat):w∈Uy true (A.map (Wc o)) s↔w∈Uy true A s:=by
 rw [Ff (X4 hA),Ff hA,Xf hA]
 refine and_iff_left_of_imp fun _ b _=>Xx hc (List.any_eq_false.2 fun a ha=>?_) _
 have:=hc a ha
 simp only [beq_iff_eq]
 omega
theorem WP (hc:∀ a∈o,2<=a.1) (hA:Bg A=true) {s u:Nat}:Rc (Uy true (A.map (Wc o))) s u↔Rc (Uy true A) s u:=YM (Y8 hc hA)
theorem YD (hc:∀ a∈o,2<=a.1) (hA:Bg A=true) {s:Nat}:Dv (A.map (Wc o)) s↔Dv A s:=by
 unfold Dv
 refine exists_congr fun g=>?_
 rw [WP hc hA]
 refine and_congr_right fun _=>exists_congr fun w=>?_
 rw [Y8 hc hA,WP hc hA]
theorem XV {α:Type} {B:List (List Ar)} {kA kB:Nat->α} (hc:∀ a∈o,2<=a.1) (hA:Bg A=true) (hB:Bg B=true) (h1:MtW A kA B kB) (h2:MtW B kB A kA):MtW (A.map (Wc o)) kA (B.map (Wc o)) kB:=by
 have hEA:=Ce true (gEg (gE4 hA).1:Br A=true)
 have hEB:=Ce true (gEg (gE4 hB).1:Br B=true)
 refine MtW.of (X4 hA) (X4 hB) fun s t hs ht e=>?_
 rw [List.length_map] at hs ht
 have han:=h1.an hA hB hs ht e
 refine ⟨fun d=>(YD hc hB).2 (han.1 ((YD hc hA).1 d)),fun x u hw=>?_⟩
 rcases hw with ⟨h0,hr⟩ | ⟨h0,p,hp,a,ha,hax,h3⟩
 ·obtain ⟨v,hv,e2⟩:=han.2 0 u (.inl ⟨rfl,(WP hc hA).1 hr⟩)
  rcases hv with ⟨_,q⟩ | ⟨q,_⟩
  ·exact ⟨v,.inl ⟨h0,(WP hc hB).2 q⟩,e2⟩
  exact absurd rfl q
 rw [WP hc hA] at hp h3
 obtain ⟨ha1,ha2⟩:=(Xf hA).1 ha
 have hpl:=hp.lt hs hEA
 rw [hax] at ha2
 cases hy:o.any (fun a=>a.1 == x) with
 | false=>
  obtain ⟨v,hv,e2⟩:=han.2 x u (.inr ⟨h0,p,hp,a,ha1,hax,h3⟩)
  rcases hv with ⟨q,_⟩ | ⟨_,q,hq,b,hb,hb1,hb2⟩
  ·exact absurd q h0
  exact ⟨v,.inr ⟨h0,q,(WP hc hB).2 hq,b,(Xf hB).2 ⟨hb,fun d _=>Xx hc (by rw [hb1];exact hy) _⟩,hb1,(WP hc hB).2 hb2⟩,e2⟩
 | true=>
  have hst:Uy true A p=[]:=by
   refine List.eq_nil_iff_forall_not_mem.2 fun w hw=>?_
   have:=ha2 _ ((Ff hA).1 hw)
   unfold HJ at this
   simp only [true_or,if_true] at this
   rw [hy] at this
   exact absurd this (by simp)
  obtain ⟨t1,ht1,et1⟩:=han.2 0 p (.inl ⟨rfl,hp⟩)
  have ht1:Rc (Uy true B) t t1:=by
   rcases ht1 with ⟨_,q⟩ | ⟨q,_⟩
   ·exact q
   exact absurd rfl q
  have ht1l:=ht1.lt ht hEB
  have hnd:¬ Dv B t1:=fun d=>Yk hst ((h2.an hB hA ht1l hpl et1).1 d)
  obtain ⟨t2,ht2,hst2⟩:=Yj hB ht1l hnd
  have ht2l:=ht2.lt ht1l hEB
  have et2:kB t2=kA p:=by
   obtain ⟨v,hv,e2⟩:=(h2.an hB hA ht1l hpl et1).2 0 t2 (.inl ⟨rfl,ht2⟩)
   rcases hv with ⟨_,q⟩ | ⟨q,_⟩
   ·rw [WO hst q] at e2;exact e2.symm
   exact absurd rfl q
  have hini:∀ b∈B.getD t2 [],HJ o x b.1=false:=fun b hb=>by
   by_cases hb0:b.1=0
   rotate_left
   ·obtain ⟨v,hv,_⟩:=(h2.an hB hA ht2l hpl et2).2 b.1 b.2.toNat (.inr ⟨hb0,t2,.refl _,b,hb,rfl,.refl _⟩)
    rcases hv with ⟨q,_⟩ | ⟨_,q,hq,d,hd,hd1,_⟩
    ·exact absurd q hb0
    rw [WO hst hq] at hd
    rw [<- hd1]
    exact ha2 d hd
   exfalso
   have hbl:=Em hB ht2l hb
   have:b.2.toNat∈Uy true B t2:=(Ff hB).2 (by
    obtain ⟨y,z⟩:=b
    simp only at hb0 hbl ⊢
    subst hb0
    rw [Int.toNat_of_nonneg hbl.2.2.1]
    exact hb)
   rw [hst2] at this
   simp at this
  obtain ⟨v,hv,e2⟩:=(h1.an hA hB hpl ht2l et2.symm).2 x u (.inr ⟨h0,p,.refl _,a,ha1,hax,h3⟩)
  rcases hv with ⟨q,_⟩ | ⟨_,q,hq,b,hb,hb1,hb2⟩
  ·exact absurd q h0
  rw [WO hst2 hq] at hb
  exact ⟨v,.inr ⟨h0,t2,(WP hc hB).2 (ht1.trans ht2),b,(Xf hB).2 ⟨hb,by rw [hb1];exact hini⟩,hb1,(WP hc hB).2 hb2⟩,e2⟩
end
theorem XW {α:Type} {Y Z:List (List Ar)} {kY kZ:Nat->α} (hY:Bg Y=true) (hZ:Bg Z=true) (h:MtW Y kY Z kZ):MtW (CG Y).1 (fun i=>kY (WT Y i)) (CG Z).1 (fun i=>kZ (WT Z i)):=by
 have hlY:Br Y=true:=gEg (gE4 hY).1
 have hlZ:Br Z=true:=gEg (gE4 hZ).1
 have cY:=YJ hlY
 have cZ:=YJ hlZ
 have vY:=Wk hlY
 have vZ:=Wk hlZ
 refine MtW.of vY vZ fun s t hs ht e=>?_
 exact ((cY.andn vY hY kY hs).trans (h.an hY hZ (cY.bd s hs) (cZ.bd t ht) e)).trans (cZ.anup vZ hZ kZ ht)
theorem XX {R:List (List Ar)} {c:List Int} {B:List Bool} {o:List Ar} (hv:Bg R=true) (hn:R.length<=40) (ht:BP R<=300) (hc:WkC R c) (hN:Nrm R.length c) (hB:DvL R B) (ho:∀ a∈o,2<=a.1) {X:List (List Ar)} (hX:X=(CG (qR R c B)).1):Bg X=true/\X.length<=R.length/\BP X<=BP R+R.length/\EqW (CG (R.map (Wc o))).1 (CG (X.map (Wc o))).1=true:=by
 obtain ⟨Z,hZe,hZv,hZl,hZt,f,kX,m1,m2,m3,m4,m0⟩:=XS hv (by omega) (by omega) hc hN hB
 rw [<- hX] at hZe
 subst hZe
 refine ⟨hZv,hZl,hZt,?_⟩
 have p1:=X4 (o:=o) hv
 have p2:=X4 (o:=o) hZv
 have l1:Br (R.map (Wc o))=true:=S0 o hv
 have l2:Br (Z.map (Wc o))=true:=S0 o hZv
 have v1:=Wk l1
 have v2:=Wk l2
 have t1:=Wm l1
 have t2:=Wm l2
 have t3:=MJ o R
 have t4:=MJ o Z
 have b1:=(Wu (R:=R.map (Wc o)) (B:=BP (R.map (Wc o))) (gE4 l1).1 (fun r hr a ha=>by have:=(gE4 l1).2.2.2 r hr a ha;exact ⟨this.2.2.1,this.2.2.2⟩) (fun r hr=>Wo r hr)).1
 have b2:=(Wu (R:=Z.map (Wc o)) (B:=BP (Z.map (Wc o))) (gE4 l2).1 (fun r hr a ha=>by have:=(gE4 l2).2.2.2 r hr a ha;exact ⟨this.2.2.1,this.2.2.2⟩) (fun r hr=>Wo r hr)).1
 rw [List.length_map] at b1 b2
 refine YB v1 v2 (by omega) (by omega) (XW p1 p1 (XV ho hv hv m1 m1)) (XW p1 p2 (XV ho hv hZv m2 m3)) (XW p2 p1 (XV ho hZv hv m3 m2)) (XW p2 p2 (XV ho hZv hZv m4 m4)) ?_
 simp only [(YJ l1).o0,(YJ l2).o0,m0]
theorem Yl {C:List Int} {k:Nat} (h:k<C.length) {m:Int}:WQ (C.drop k) m=((!decide (C[k]<0) && !decide (C[k] > m)) && WQ (C.drop (k+1)) (YQ m C[k])):=by
 rw [List.drop_eq_getElem_cons h,WQ]
theorem Ym {C:List Int} {k:Nat} (h:k<C.length):YR 0 (C.take (k+1))=YQ (YR 0 (C.take k)) C[k]:=by
 rw [gE8 h,WM]
theorem YE (C:List Int) (n:Nat) (hC:C.length<=9223372036854775807):FC Tryd.prog 48 [AK C,.i n] [] (fun r o=>o=[]/\r=.b (WR C n)):=by
 refine A8 Tryd.func48 rfl (by rw [Tryd.ntmps48];simp) ?_
 rw [Tryd.ntmps48]
 simp only [Bs,AK]
 (refine Ue @A3 ?_;(repeat clear hK K);repeat refine kq fun K hK=>?_)
 refine Ac (fun k:Nat=>{ tm:=[(0,.a (.c (.t 1 (Af C)))),(1,.i n),(5,.i (YR 0 (C.take k))),(8,.a (.c (.t 1 (Af C)))),(9,.i C.length),(10,.i k)],hp:=[],n:=30,pin:=0 }) (fun k=>k<=C.length/\WQ C 0=WQ (C.drop k) (YR 0 (C.take k))/\0<=YR 0 (C.take k)/\YR 0 (C.take k)<=k) (fun k=>C.length - k) 0 ?_ ?_ ?_
 ·exact ⟨by omega,by simp [YR],by simp [YR],by simp [YR]⟩
 ·have e:YR 0 (C.take 0)=0:=by simp [YR]
  rw [e]
  exact Un
 rintro k ⟨hk,hg,hm0,hmk⟩ K hK
 by_cases hlt:k<C.length
 rotate_left
 ·have d1:decide ((k:Int)<(C.length:Int))=false:=by simpa using hlt
  have hd:WQ C 0=true:=by rw [hg,List.drop_of_length_le (by omega)];rfl
  (refine Ue @d1 ?_;(repeat clear hK K);repeat refine kq fun K hK=>?_)
  refine Ul ?_
  (refine Uh ?_;repeat clear hK K)
  (refine Ue @A3 ?_;(repeat clear hK K);repeat refine kq fun K hK=>?_)
  refine Uq Tryd.results48 ?_
  have e:((C.length:Int) == (n:Int))=decide (C.length=n):=by rw [Bool.eq_iff_iff,beq_iff_eq,decide_eq_true_iff];omega
  rw [WR,hd,Bool.true_and,e]
 have d1:decide ((k:Int)<(C.length:Int))=true:=by simpa using hlt
 have gc:=Ap (gE1 hlt)
 have hs:=Yl hlt (m:=YR 0 (C.take k))
 have hx:=Ym hlt
 generalize C[k]=c at *
 generalize YR 0 (C.take k)=m at *
 rw [hs] at hg
 by_cases h1:c<0
 ·have d2:decide (c<0)=true:=by simpa using h1
  (refine Ue @d1 ?_;(repeat clear hK K);repeat refine kq fun K hK=>?_)
  refine Uk ?_
  (refine Ue (an @A3 (an @gc @d2)) ?_;(repeat clear hK K);repeat refine kq fun K hK=>?_)
  refine Uk ?_
  (refine Ud ?_;(repeat clear hK K);repeat refine kq fun K hK=>?_)
  refine Uq Tryd.results48 ?_
  simp [WR,hg,h1]
 have d2:decide (c<0)=false:=by simpa using h1
 by_cases h2:c > m
 ·have d3:decide (c > m)=true:=by simpa using h2
  (refine Ue @d1 ?_;(repeat clear hK K);repeat refine kq fun K hK=>?_)
  refine Uk ?_
  (refine Ue (an @A3 (an @gc (an @d2 @d3))) ?_;(repeat clear hK K);repeat refine kq fun K hK=>?_)
  refine Uk ?_
  (refine Ud ?_;(repeat clear hK K);repeat refine kq fun K hK=>?_)
  refine Uq Tryd.results48 ?_
  simp [WR,hg,h2]
 have d3:decide (c > m)=false:=by simpa using h2
 (refine Ue @d1 ?_;(repeat clear hK K);repeat refine kq fun K hK=>?_)
 refine Uk ?_
 (refine Ue (an @A3 (an @gc (an @d2 @d3))) ?_;(repeat clear hK K);repeat refine kq fun K hK=>?_)
 refine Ul ?_
 (refine Ud ?_;(repeat clear hK K);repeat refine kq fun K hK=>?_)
 refine Um ?_
 have h3:0<=YQ m c/\YQ m c<=m+1:=by unfold YQ;split <;> omega
 refine hK _ (k+1) ⟨by omega,by rw [hg,hx,d2,d3];simp,by rw [hx];omega,by rw [hx];omega⟩ (by omega) ?_
 have e:(if c+1 > m then c+1 else m)=YR 0 (C.take (k+1)):=by rw [hx];rfl
 rw [<- e]
 exact Un
theorem YF (C:List Int) (h1:0<C.length) (hC:C.length<=140737488355328):FC Tryd.prog 49 [AK C] [] (fun r o=>o=[]/\r=.i (X5 C[0] C)):=by
 refine A8 Tryd.func49 rfl (by rw [Tryd.ntmps49];simp) ?_
 rw [Tryd.ntmps49]
 simp only [Bs,AK]
 have d0:decide ((C.length:Int)<1)=false:=by simp;omega
 have g0:(Af C)[0]?=some (.v (.int .i64 C[0])):=Ap (gE1 h1)
 (refine Ue (an @A3 @d0) ?_;(repeat clear hK K);repeat refine kq fun K hK=>?_)
 refine Ul ?_
 (refine Ue (an @A3 (an @g0 @Int.toNat_zero)) ?_;(repeat clear hK K);repeat refine kq fun K hK=>?_)
 refine Ac (fun k:Nat=>{ tm:=[(0,.a (.c (.t 1 (Af C)))),(3,.i (X5 C[0] (C.take k))),(4,.i k)],hp:=[],n:=25,pin:=0 }) (fun k=>1<=k/\k<=C.length) (fun k=>C.length - k) 1 ?_ ?_ ?_
 ·omega
 ·have e:C.take 1=[C[0]]:=by rw [gE8 h1];rfl
  have e2:X5 C[0] [C[0]]=C[0]:=by simp [X5]
  (refine BG ?_;simp only [Dl,go_sem,e,e2];try simp)
 rintro k ⟨hk1,hk⟩ K hK
 by_cases hlt:k<C.length
 rotate_left
 ·have d1:decide ((k:Int)<(C.length:Int))=false:=by simpa using hlt
  have he:C.take k=C:=gE7 (by omega)
  rw [he]
  (refine Ue (an @A3 @d1) ?_;(repeat clear hK K);repeat refine kq fun K hK=>?_)
  refine Ul ?_
  (refine Uh ?_;repeat clear hK K)
  (refine Ud ?_;(repeat clear hK K);repeat refine kq fun K hK=>?_)
  exact L9 Tryd.results49
 have d1:decide ((k:Int)<(C.length:Int))=true:=by simpa using hlt
 have g1:=Ap (gE1 hlt)
 (refine Ue (an @A3 @d1) ?_;(repeat clear hK K);repeat refine kq fun K hK=>?_)
 refine Uk ?_
 (refine Ue (an @A3 @g1) ?_;(repeat clear hK K);repeat refine kq fun K hK=>?_)
 refine Um ?_
 refine hK _ (k+1) ⟨by omega,by omega⟩ (by omega) ?_
 have e:=gE8 hlt
 (refine BG ?_;simp only [Dl,go_sem,e,Xm];try simp)
end Go.Proofs.YtjijjfkalheokaaDoor
namespace Go.Proofs.YtjijjfkalheokaaDoor
set_option linter.unusedVariables false
set_option linter.unusedSimpArgs false
open Go.RowKit
set_option maxRecDepth 100000
theorem Xt (a b:Ar):FC Tryd.prog 70 [.a (.g [.v (.int .i64 a.1),.v (.int .i64 a.2)]),.a (.g [.v (.int .i64 b.1),.v (.int .i64 b.2)])] [] (fun r o=>o=[]/\r=.i (F5 a b)):=by
 refine A8 Tryd.func70 rfl (by rw [Tryd.ntmps70];simp) ?_
 rw [Tryd.ntmps70]
 simp only [Bs]
 (refine Ue (an @List.set_cons_zero.{0} @List.set_cons_succ.{0}) ?_;(repeat clear hK K);repeat refine kq fun K hK=>?_)
 (refine C2 [] [(0,0,0),(2,0,0),(5,0,0),(7,0,0),(1,1,4),(3,1,4),(6,1,9),(8,1,9),(4,2,0),(9,2,0),(10,2,0),(11,2,0),(12,2,0)] (by kernel_rfl) (by kernel_rfl) (by intro c st h;simp [Ai,AX,Tz] at h) ?_)
 (refine Ub ?_;repeat clear hK K)
 (refine U0 rfl rfl ?_;intro K1 hK1;refine Bb ?_;refine xv [] (J5 a.1 b.1) ?_ ?_)
 ·rintro _ _ ⟨rfl,rfl⟩ i o hi hl;simp at hl
 rintro _ _ ⟨rfl,rfl⟩
 (refine Uj ?_;clear hK1 K1)
 (refine Ub ?_;repeat clear hK K)
 (refine U0 rfl rfl ?_;intro K1 hK1;refine Bb ?_;refine xv [] (J5 a.2 b.2) ?_ ?_)
 ·rintro _ _ ⟨rfl,rfl⟩ i o hi hl;simp at hl
 rintro _ _ ⟨rfl,rfl⟩
 (refine Uj ?_;clear hK1 K1)
 (refine Ub ?_;repeat clear hK K)
 (refine U1 rfl rfl rfl ?_;intro K1 hK1;refine Ba rfl ?_;simp only [go_sem,List.set_cons_zero,List.set_cons_succ];(first | refine hK1 _ ?_ | refine AE (hK1 _ ?_));clear hK1 K1)
 (refine SQ (Bh (r:=⟨3,1,true,A5 [Et a.1 b.1,Et a.2 b.2]⟩) 2 (Af [Et a.1 b.1,Et a.2 b.2]) rfl (I9 _) (show 0<(1:Nat) by omega)) ?_;simp only [ST.frz,A0.frz,AV.frz,C.frz,Nat.le_refl,List.set_cons_zero,List.set_cons_succ,go_sem,A3,AC,List.length_cons,List.length_nil,List.take_succ_cons,List.take_zero])
 (refine Ub ?_;repeat clear hK K)
 (refine U0 rfl rfl ?_;intro K1 hK1;refine Bb ?_;refine DI (ids:=[]) [] (J8 [Et a.1 b.1,Et a.2 b.2] (by simp)) rfl rfl (by simp only [go_sem]) (by kernel_rfl) rfl rfl rfl (by (simp only [List.map_append,List.append_nil,go_sem]) <;> rfl) (by (simp only [Tx,AK,go_sem]) <;> rfl) ?_ ?_)
 ·rintro _ _ ⟨rfl,rfl⟩ i o hi hl;simp at hl
 rintro _ _ ⟨rfl,rfl⟩
 (refine Uj ?_;clear hK1 K1)
 (refine U1 rfl rfl rfl ?_;intro K1 hK1;refine Ba rfl ?_;simp only [go_sem];(first | refine hK1 _ ?_ | refine AE (hK1 _ ?_));clear hK1 K1)
 (refine Ub ?_;repeat clear hK K)
 refine Uo [] Tryd.results70 ?_
 rw [Lk]
attribute [local go_sem] lga C.pl C.one
theorem Xy (R:List (List Ar)):∀ (f i:Nat) (num old:List Int) (out:List (List Ar)),∃ l,(Hs R f i num old out).1=out++l:=by
 intro f
 induction f with
 | zero=>intro i num old out;exact ⟨[],by simp [Hs]⟩
 | succ f ih=>
  intro i num old out
  unfold Hs
  split
  ·exact ⟨[],by simp⟩
  obtain ⟨l,hl⟩:=ih (i+1) (F9 (CI (R.getD (Int.toNat ‹_›) [])) num old []).1 (F9 (CI (R.getD (Int.toNat ‹_›) [])) num old []).2.1 (out++[(F9 (CI (R.getD (Int.toNat ‹_›) [])) num old []).2.2])
  exact ⟨_ :: l,by rw [hl,List.append_assoc];rfl⟩
theorem Xg (x y:List (List Ar)):BP (x++y)=BP x+BP y:=by simp [BP]
theorem XY (r:List Ar):BP [r]=r.length:=by simp [BP]
def YX (q:List (List Ar)) (r:AV) (o:List Ob):Prop:=
 if BP q<=262144 then o=[.r ⟨24,1,false,[.t 1 (Ae q)]⟩]/\r=.tup [.g [.t 1 (Ae q)],.c (.v (.bool true))]
 else o=[.r ⟨24,1,false,[.v (.slice none 0 0)]⟩]/\r=.tup [.g [.v (.slice none 0 0)],.c (.v (.bool false))]
set_option maxHeartbeats 8000000 in
theorem Xz (R:List (List Ar)) (h1:1<=R.length) (hbd:∀ r∈R,∀ a∈r,0<=a.2/\a.2<(R.length:Int)) (hn:R.length<=1000000) (hr:∀ r∈R,r.length<=1000000):FC Tryd.prog 50 [.a (.c (.t 1 (Ae R)))] [] (YX (CG R).1):=by
 refine A8 Tryd.func50 rfl (by rw [Tryd.ntmps50];simp) ?_
 rw [Tryd.ntmps50]
 simp only [Bs]
 (refine Ue @A6 ?_;(repeat clear hK K);repeat refine kq fun K hK=>?_)
 (refine A9 rfl ?_;intro K1 hK1;refine As (ids:=[]) [1] (F8 (-1) R.length h1 hn) rfl rfl (by simp only [go_sem]) (by first | assumption | kernel_rfl) rfl rfl (by (simp only [List.map_append,List.append_nil,go_sem]) <;> rfl) (by (simp only [Tx,Am,A5,go_sem]) <;> rfl) ?_ ?_)
 ·rintro _ _ ⟨rfl,rfl⟩;rfl
 rintro _ _ ⟨rfl,rfl⟩
 (simp only [AK,CB,Am,Bw,List.append_nil,List.nil_append,List.length_map,go_sem];refine hK1 _ ?_;clear hK1 K1)
 have g0:0<(List.replicate R.length (-1:Int)).length:=by simp;omega
 (refine CY (an @A2 (an @List.length_replicate.{0} @AL)) ?_;(repeat clear hK K);repeat refine kq fun K hK=>?_)
 refine B1 (Rk 30 1) ?_
 simp only [List.cons_append,List.nil_append]
 refine B1 (PH 4 0 5 (by decide) rfl rfl rfl) ?_
 simp only [List.set_cons_zero,List.set_cons_succ]
 refine B1 (Ad [0,2,3,4,5] rfl rfl) ?_
 (try simp only [List.set_nil,List.take_nil,List.take_zero,List.map_append,go_sem])
 (try simp only [A7])
 refine Ac (fun x:Nat × List Int × List Int × List (List Ar)=>{ tm:=[(0,.a (.c (.t 1 (Ae R)))),(2,.a (.c (.p 0 0))),(4,.a (.c (.s 1 R.length))),(5,.a (.c (.s 2 x.2.2.1.length))),(6,.i (BP x.2.2.2)),(7,.a (.c (.p 3 0))),(8,.i x.1)],hp:=[.r ⟨24,1,false,[.v (.slice none 0 0)]⟩,.r ⟨3,1,true,A5 x.2.1⟩,.r ⟨3,1,true,A5 x.2.2.1⟩,.r ⟨24,1,false,[.s 4 x.1]⟩,.r ⟨30,1,true,Bd x.2.2.2⟩],n:=87,pin:=0 }) (fun x=>NumOk R.length x.2.1 x.2.2.1/\NumInj x.2.1 x.2.2.1/\Hs R (R.length - x.1) x.1 x.2.1 x.2.2.1 x.2.2.2=CG R/\x.1<=x.2.2.1.length/\x.2.2.2.length=x.1/\BP x.2.2.2<=262144) (fun x=>R.length - x.1) (0,(List.replicate R.length (-1)).set 0 0,[0],[]) ?_ ?_ ?_
 ·exact ⟨NumOk.start h1,NumInj.start h1,rfl,by simp,rfl,by simp [BP]⟩
 ·simp only [BP,List.map_nil,List.sum_nil]
  exact Un
 rintro ⟨i,num,old,out⟩ ⟨hN,hI,hC,hio,hoi,hto⟩ K hK
 simp only at hN hI hC hio hoi hto
 have hlen:=hN.len
 have hle:=hN.le
 by_cases hlt:i<old.length
 rotate_left
 ·have d1:decide ((i:Int)<(old.length:Int))=false:=by simpa using hlt
  have hfin:CG R=(out,old):=by rw [<- hC];exact Ka (by omega)
  (refine Ue (an @d1 @A2) ?_;(repeat clear hK K);repeat refine kq fun K hK=>?_)
  refine Ul ?_
  (refine Uh ?_;repeat clear hK K)
  refine B1 (B6 (r:=⟨30,1,true,Bd out⟩) (ri:=⟨24,1,false,[.s 4 i]⟩) (ts:=Ae out) 3 0 4 i (by decide) rfl rfl rfl rfl (show 0<1 by omega) (by simp only [F2,hoi];omega) (F4 _)) ?_
  simp only [go_sem]
  refine B1 (I1 3 rfl) ?_
  simp only [TF,go_sem]
  (refine Nh ?_;(repeat clear hK K);repeat refine kq fun K hK=>?_)
  refine Uo [0] Tryd.results50 ?_
  rw [hfin]
  unfold YX
  rw [if_pos hto]
  exact ⟨rfl,rfl⟩
 have d1:decide ((i:Int)<(old.length:Int))=true:=by simpa using hlt
 have hs0:=hN.st _ (gE6 hlt)
 obtain ⟨sn,hsn⟩:∃ sn:Nat,old[i]=sn:=⟨old[i].toNat,by omega⟩
 have hsl:sn<R.length:=by omega
 have go:(A5 old)[i]?=some (.v (.int .i64 sn)):=by rw [<- hsn];exact Ak (gE1 hlt)
 have hgR:=gE1 hsl
 have hrl:=hr _ (gE6 hsl)
 have hst:=Kb (rows:=R) (n:=R.length) (i:=i) (num:=num) (old:=old) (out:=out) (s:=(sn:Int)) (r:=R[sn]) (by omega) (by rw [gE1 hlt,hsn]) (by simp [hgR]) rfl
 generalize hrr:R[sn]=r at *
 have hcl:=FM (Al r) (by rw [A4];omega)
 rw [Jj,A4,AA] at hcl
 (refine Ue (an @d1 @A2) ?_;(repeat clear hK K);repeat refine kq fun K hK=>?_)
 refine Uk ?_
 (refine Ue (an @A6 (an (AQ hgR) (an @A2 @go))) ?_;(repeat clear hK K);repeat refine kq fun K hK=>?_)
 (refine Ui hcl ?_;intro K1 hK1)
 rintro _ _ ⟨rfl,rfl⟩
 (simp only [AK,CB,C9,List.append_nil,List.nil_append,List.length_map,go_sem];refine hK1 _ ?_;clear hK1 K1)
 (refine Ud ?_;(repeat clear hK K);repeat refine kq fun K hK=>?_)
 (refine A9 rfl ?_;intro K1 hK1;refine As (ids:=[]) [5] (Ji 70 (by kernel_rfl) Xt r (by omega)) rfl rfl (by simp only [go_sem]) (by first | assumption | kernel_rfl) rfl rfl (by (simp only [List.map_append,List.append_nil,go_sem]) <;> rfl) (by (simp only [Tx,C4,go_sem]) <;> rfl) ?_ ?_)
 ·rintro _ _ ⟨rfl,L',_,_,rfl⟩;rfl
 rintro _ _ ⟨rfl,L',hperm,hsort,rfl⟩
 (simp only [AK,CB,C9,List.append_nil,List.nil_append,List.length_map,go_sem];refine hK1 _ ?_;clear hK1 K1)
 have hLl:=hperm.length_eq
 have hq:Kj L'=CI r:=by rw [LI];exact Ly hperm hsort
 rw [<- hLl]
 (refine Ud ?_;(repeat clear hK K);repeat refine kq fun K hK=>?_)
 (refine A9 rfl ?_;intro K1 hK1;refine As (ids:=[]) [5] (Hv L' (by omega)) rfl rfl (by simp only [go_sem]) (by first | assumption | kernel_rfl) rfl rfl (by (simp only [List.map_append,List.append_nil,go_sem]) <;> rfl) (by (simp only [Tx,C4,go_sem]) <;> rfl) ?_ ?_)
 ·rintro _ _ ⟨rfl,rest,us,_,_,rfl⟩;rfl
 rintro _ _ ⟨rfl,rest,us,hrest,hr0,rfl⟩
 (simp only [AK,CB,C9,List.append_nil,List.nil_append,List.length_map,go_sem];refine hK1 _ ?_;clear hK1 K1)
 (refine Ud ?_;(repeat clear hK K);repeat refine kq fun K hK=>?_)
 obtain ⟨q,hqd⟩:∃ q,q=CI r:=⟨_,rfl⟩
 rw [<- hqd] at hq hst
 have hqs:SortA q:=by rw [hqd];exact AD r
 have hql:q.length<=1000000:=by rw [hqd];exact Nat.le_trans (Lx r) (by omega)
 have hqb:∀ a∈q,0<=a.2/\a.2<(R.length:Int):=fun a ha=>by
  rw [hqd,C8] at ha
  exact hbd r (by rw [<- hrr];exact gE6 hsl) a ha
 rw [hq]
 refine B1 (PG 5 (q.length*2) rfl ?_) ?_
 ·intro _ h
  rw [Jk _ _ _ (C9 _ _)] at h
  have hq0:q=[]:=by
   have:=congrArg List.length h
   rw [Aq] at this
   exact List.length_eq_zero_iff.1 (by simp at this;omega)
  have hL0:L'=[]:=by
   cases L' with
   | nil=>rfl
   | cons x xs=>
    have:Kj (x :: xs)=[]:=by rw [hq,hq0]
    simp [Kj] at this
  rw [hr0 hL0,hq0];rfl
 simp only [Jk _ _ _ (C9 _ _),go_sem]
 refine Ac (fun x:Nat × List Int × List Int × List Ar=>{ tm:=[(0,.a (.c (.t 1 (Ae R)))),(2,.a (.c (.p 0 0))),(4,.a (.c (.s 1 R.length))),(5,.a (.c (.s 2 x.2.2.1.length))),(6,.i (BP out)),(7,.a (.c (.p 3 0))),(8,.i i),(9,.a (.c (.s 5 q.length))),(37,.a (.c (.s 5 q.length))),(38,.i q.length),(39,.i x.1)],hp:=[.r ⟨24,1,false,[.v (.slice none 0 0)]⟩,.r ⟨3,1,true,A5 x.2.1⟩,.r ⟨3,1,true,A5 x.2.2.1⟩,.r ⟨24,1,false,[.s 4 i]⟩,.r ⟨30,1,true,Bd out⟩,.r ⟨29,2,true,Ao x.2.2.2⟩],n:=87,pin:=0 }) (fun x=>x.1<=q.length/\x.2.2.2.length=q.length/\NumOk R.length x.2.1 x.2.2.1/\old.length<=x.2.2.1.length/\NL (Ds q num old) x.2.2.2 q x.1 x.2.1 x.2.2.1) (fun x=>q.length - x.1) (0,num,old,q) ?_ ?_ ?_
 ·exact ⟨by simp,rfl,hN,Nat.le_refl _,NL.start q num old⟩
 ·exact Un
 rintro ⟨k,num1,old1,ya⟩ ⟨hk,hyl,hN1,hol,hNL⟩ K hK
 simp only at hk hyl hN1 hol hNL
 have hlen1:=hN1.len
 have hle1:=hN1.le
 by_cases hlt2:k<q.length
 rotate_left
 ·have d2:decide ((k:Int)<(q.length:Int))=false:=by simpa using hlt2
  obtain ⟨f1,f2,f3⟩:=hNL.fin (by omega) hyl
  have hnd:ya.Nodup:=by rw [f1];exact Kf q hqs (fun a ha=>by rw [hlen];exact hqb a ha) hI
  have hI2:NumInj num1 old1:=by rw [f2,f3];exact Je q (fun a ha=>by rw [hlen];exact hqb a ha) hI
  (refine Ue @d2 ?_;(repeat clear hK K);repeat refine kq fun K hK=>?_)
  refine Ul ?_
  (refine Uh ?_;repeat clear hK K)
  rw [<- hyl]
  (refine Ud ?_;(repeat clear hK K);repeat refine kq fun K hK=>?_)
  (refine A9 rfl ?_;intro K1 hK1;refine As (ids:=[]) [5] (Ji 70 (by kernel_rfl) Xt ya (by omega)) rfl rfl (by simp only [go_sem]) (by first | assumption | kernel_rfl) rfl rfl (by (simp only [List.map_append,List.append_nil,go_sem]) <;> rfl) (by (simp only [Tx,C4,go_sem]) <;> rfl) ?_ ?_)
  ·rintro _ _ ⟨rfl,L2,_,_,rfl⟩;rfl
  rintro _ _ ⟨rfl,L2,hp2,hs2,rfl⟩
  (simp only [AK,CB,C9,List.append_nil,List.nil_append,List.length_map,go_sem];refine hK1 _ ?_;clear hK1 K1)
  have hL2:L2=CI ya:=Kd hnd hp2 hs2
  have hL2l:=hp2.length_eq
  rw [<- hL2l]
  (refine B3 (Bh (r:=⟨29,2,true,Ao L2⟩) 5 (Al L2) rfl (Dp _) (show 0<(2:Nat) by omega)) ?_;simp only [ST.frz,A0.frz,AV.frz,C.frz,Nat.le_refl,List.set_cons_zero,List.set_cons_succ,go_sem,A4,AA,CZ,List.take_length])
  have htt:BP (out++[L2])=BP out+L2.length:=by rw [Xg,XY]
  have hCn:Hs R (R.length - (i+1)) (i+1) num1 old1 (out++[L2])=CG R:=by
   rw [<- hC,hst,Ke,f2,f3,hL2,f1]
   rfl
  by_cases htb:BP (out++[L2]) > 262144
  ·have d5:decide ((BP out:Int)+(L2.length:Int) > 262144)=true:=gEg (by omega)
   (refine Ue (an @A4 (an @AA @d5)) ?_;(repeat clear hK K);repeat refine kq fun K hK=>?_)
   refine Uk ?_
   (refine Nh ?_;(repeat clear hK K);repeat refine kq fun K hK=>?_)
   refine Uo [0] Tryd.results50 ?_
   obtain ⟨l,hl⟩:=Xy R (R.length - (i+1)) (i+1) num1 old1 (out++[L2])
   rw [hCn] at hl
   unfold YX
   rw [if_neg (by rw [hl,Xg];omega)]
   exact ⟨rfl,rfl⟩
  have d5:decide ((BP out:Int)+(L2.length:Int) > 262144)=false:=decide_eq_false (by omega)
  have crp:=Kl out L2 hoi
  have ett:(BP out:Int)+(L2.length:Int)=(BP (out++[L2]):Int):=by omega
  (refine Ue (an @A4 (an @AA @d5)) ?_;(repeat clear hK K);repeat refine kq fun K hK=>?_)
  refine Ul ?_
  (refine CY (an @crp (an @F2 @hoi)) ?_;(repeat clear hK K);repeat refine kq fun K hK=>?_)
  refine Um ?_
  refine hK _ (i+1,num1,old1,out++[L2]) ⟨hN1,hI2,hCn,by simp only;omega,by simp [hoi],by simp only;omega⟩ (by simp only;omega) ?_
  refine Le.trans (Ad [0,1,2,3,7] rfl rfl) ?_
  (try simp only [List.set_nil,List.take_nil,List.take_zero,List.map_append,go_sem])
  (try simp only [A7,F3,ett])
  exact Un
 have d2:decide ((k:Int)<(q.length:Int))=true:=by simpa using hlt2
 have hky:k<ya.length:=by omega
 have hyq:ya[k]=q[k]:=by
  have:=congrArg (fun l=>l[0]?) hNL.2.2.2
  simp only [List.getElem?_drop,Nat.add_zero] at this
  rw [gE1 hky,gE1 hlt2] at this
  exact Option.some.inj this
 have hyb:=hqb _ (gE6 hlt2)
 rw [<- hyq] at hyb
 obtain ⟨e,tn,hya⟩:∃ (e:Int) (tn:Nat),ya[k]=(e,(tn:Int)):=⟨ya[k].1,ya[k].2.toNat,by
  have:(ya[k].2.toNat:Int)=ya[k].2:=by omega
  rw [this]⟩
 have hyk:ya[k]?=some (e,(tn:Int)):=by rw [gE1 hky,hya]
 have htl:tn<R.length:=by rw [hya] at hyb;have:=hyb.2;simp only at this;omega
 have hat:=D0 hky
 rw [hya] at hat
 have gn:(A5 num1)[tn]?=some (.v (.int .i64 num1[tn])):=Ak (gE1 (by omega))
 have gn2:num1[tn]?=some num1[tn]:=gE1 (by omega)
 (refine Ue @d2 ?_;(repeat clear hK K);repeat refine kq fun K hK=>?_)
 refine Uk ?_
 by_cases hx:num1[tn]<0
 rotate_left
 ·have d3:decide (num1[tn]<0)=false:=by simpa using hx
  have cs:=E9 hyk num1[tn]
  (refine CY (an @hat (an @Aq (an @hyl (an @gn (an @d3 (an @A2 @hlen1)))))) ?_;(repeat clear hK K);repeat refine kq fun K hK=>?_)
  refine Ul ?_
  (refine CY (an @gn (an @cs (an @Aq (an @hyl (an @A2 @hlen1))))) ?_;(repeat clear hK K);repeat refine kq fun K hK=>?_)
  refine Um ?_
  refine hK _ (k+1,num1,old1,ya.set k (e,num1[tn])) ⟨hlt2,by simp [hyl],hN1,hol,hNL.pos hyk gn2 hx⟩ (by simp only;omega) ?_
  refine Le.trans (Ad [0,1,2,3,4,5] rfl rfl) ?_
  (try simp only [List.set_nil,List.take_nil,List.take_zero,List.map_append,go_sem])
  (try simp only [A7,C4,F3])
  exact Un
 have d3:decide (num1[tn]<0)=true:=by simpa using hx
 have gs:(A5 (num1.set tn (old1.length:Int)))[tn]?=some (.v (.int .i64 (old1.length:Int))):=Ak (gEc (by omega))
 have op:=Jl old1 (tn:Int)
 have cs:=E9 hyk (old1.length:Int)
 (refine CY (an @hat (an @Aq (an @hyl (an @gn (an @d3 (an @A2 @hlen1)))))) ?_;(repeat clear hK K);repeat refine kq fun K hK=>?_)
 refine Uk ?_
 (refine CY (an @A2 (an @hlen1 (an @AL (an @op (an @gs (an @cs (an @Aq (an @hyl @List.length_set.{0})))))))) ?_;(repeat clear hK K);repeat refine kq fun K hK=>?_)
 refine Um ?_
 have hone:AP num1 old1 (tn:Int)=(num1.set tn (old1.length:Int),old1++[(tn:Int)]):=by
  simp only [AP,Int.toNat_natCast,List.getD,gn2,Option.getD_some,if_pos hx]
 have hN2:=hN1.one (t:=(tn:Int)) (by omega) (by omega)
 rw [hone] at hN2
 refine hK _ (k+1,num1.set tn (old1.length:Int),old1++[(tn:Int)],ya.set k (e,(old1.length:Int))) ⟨hlt2,by simp [hyl],hN2,by simp;omega,hNL.neg hyk gn2 hx rfl⟩ (by simp only;omega) ?_
 refine Le.trans (Ad [0,1,8,3,4,5] rfl rfl) ?_
 (try simp only [List.set_nil,List.take_nil,List.take_zero,List.map_append,go_sem])
 (try simp only [A7,C4,F3])
 simp only [List.length_append,List.length_cons,List.length_nil]
 exact Un
end Go.Proofs.YtjijjfkalheokaaDoor
