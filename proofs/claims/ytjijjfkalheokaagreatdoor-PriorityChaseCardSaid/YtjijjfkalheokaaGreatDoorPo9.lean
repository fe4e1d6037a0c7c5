/- Lemmas. -/
import Derived.Test.YtjijjfkalheokaaGreatDoorZk
import Derived.Test.YtjijjfkalheokaaGreatDoorMcu
import Derived.Test.YtjijjfkalheokaaGreatDoorCv1
import Derived.Test.YtjijjfkalheokaaGreatDoorG53
import Derived.Test.YtjijjfkalheokaaGreatDoorMG
import Derived.Test.YtjijjfkalheokaaGreatDoorG37
import Derived.Test.YtjijjfkalheokaaGreatDoorDl1
import Derived.Test.YtjijjfkalheokaaGreatDoorG36
namespace Go.Proofs.YtjijjfkalheokaaGreatDoor
set_option linter.unusedVariables false
set_option linter.unusedSimpArgs false
open Go.RowKit
set_option maxRecDepth 100000
attribute [local go_sem] lga C.pl C.one

theorem OK (o:List Ar) (e:Int) (hv:E2 e=false):FC Tryz.prog 94 [BK o,.i e] [] (fun r q=>q=[]/\r=.a (.c (.v (.slice none 0 0)))):=by
 refine A6 Tryz.func94 rfl (by rw [Tryz.ntmps94];simp) ?_
 rw [Tryz.ntmps94]
 have h:=HJ e
 rw [hv] at h
 simp only [Bf,BK]
 (refine Wt ?_;(repeat clear hK K);repeat refine kq fun K hK=>?_)
 (refine Wy h ?_;intro K1 hK1)
 rintro _ _ ⟨rfl,rfl⟩
 (refine Wz ?_;clear hK1 K1)
 (refine Wu @Bool.not_false ?_;(repeat clear hK K);repeat refine kq fun K hK=>?_)
 refine WB ?_
 (refine Wt ?_;(repeat clear hK K);repeat refine kq fun K hK=>?_)
 exact M6 Tryz.results94
def IJ (o:List Ar) (lo hi:Int):Bool:=if hi=0\/hi=1 then o.any (fun a=>a.1 == lo) else decide ((lo,hi)∈o)
set_option maxHeartbeats 1000000 in
theorem Td (o:List Ar) (lo hi:Int) (hn:o.length<=1000000) (hs:SortA o) (hh:∀ a∈o,0<=a.2) (hc:∀ a∈o,E2 a.1=true):FC Tryz.prog 62 [BK o,.i lo,.i hi] [] (fun r q=>q=[]/\r=.b (IJ o lo hi)):=by
 refine A6 Tryz.func62 rfl (by rw [Tryz.ntmps62];simp) ?_
 rw [Tryz.ntmps62]
 have hcn:=Fo o (lo,hi) (by omega) hs
 have hab:=II o lo (by omega) hs
 have hno:=OK o lo
 simp only [Bf,BK] at hcn hab hno ⊢
 by_cases h01:hi=0\/hi=1
 rotate_left
 ·have hval:IJ o lo hi=decide ((lo,hi)∈o):=by unfold IJ;rw [if_neg h01]
  have h0:(hi == 0)=false:=by simp;omega
  have h1:(hi == 1)=false:=by simp;omega
  rw [hval]
  (refine Wu (an @h0 @h1) ?_;(repeat clear hK K);repeat refine kq fun K hK=>?_)
  refine WC ?_
  (refine Wt ?_;(repeat clear hK K);repeat refine kq fun K hK=>?_)
  (refine Wy hcn ?_;intro K1 hK1)
  rintro _ _ ⟨rfl,rfl⟩
  (refine Wz ?_;clear hK1 K1)
  (refine Wt ?_;(repeat clear hK K);repeat refine kq fun K hK=>?_)
  exact M6 Tryz.results62
 have hval:IJ o lo hi=o.any (fun a=>a.1 == lo):=by unfold IJ;rw [if_pos h01]
 rw [hval]
 cases h0:(hi == 0) <;> cases h1:(hi == 1)
 ·simp at h0 h1;omega
 all_goals
  (refine Wu (an @h0 @h1) ?_;(repeat clear hK K);repeat refine kq fun K hK=>?_)
  refine WB ?_
  (refine Wt ?_;(repeat clear hK K);repeat refine kq fun K hK=>?_)
  cases hv:E2 lo with
  | true=>
   (refine Wy (hab hv hh) ?_;intro K1 hK1)
   rintro _ _ ⟨rfl,W,rfl,hW,hWm⟩
   (refine Wz ?_;clear hK1 K1)
   have e:o.any (fun a=>a.1 == lo)=decide ((W.length:Int) > 0):=by
    cases W with
    | nil=>
     rw [show decide ((([]:List Ar).length:Int) > 0)=false by simp,List.any_eq_false]
     intro a ha h
     have:=(hWm a).2 ⟨ha,by simpa using h⟩
     simp at this
    | cons b W=>
     rw [show decide (((b :: W).length:Int) > 0)=true by simp,List.any_eq_true]
     have:=(hWm b).1 List.mem_cons_self
     exact ⟨b,this.1,by simpa using this.2⟩
   (refine Wu @A2 ?_;(repeat clear hK K);repeat refine kq fun K hK=>?_)
   refine WH Tryz.results62 ?_
   rw [e,show W.length*2 / 2=W.length by omega]
  | false=>
   (refine Wy (hno hv) ?_;intro K1 hK1)
   rintro _ _ ⟨rfl,rfl⟩
   (refine Wz ?_;clear hK1 K1)
   have e:o.any (fun a=>a.1 == lo)=false:=by
    rw [List.any_eq_false]
    intro a ha h
    have h2:=hc a ha
    rw [show a.1=lo by simpa using h,hv] at h2
    cases h2
   (refine Wt ?_;(repeat clear hK K);repeat refine kq fun K hK=>?_)
   refine WH Tryz.results62 ?_
   rw [e]
   rfl
theorem Uy (o:List Ar) (x:Ar) (e:Int) (hn:o.length<=1000000) (hs:SortA o) (hh:∀ a∈o,0<=a.2) (hc:∀ a∈o,E2 a.1=true):FC Tryz.prog 61 [.i e,.a (.c (.p 0 0)),.a (.c (.p 1 0))] [.r ⟨50,1,false,[.t 2 (Ao o)]⟩,.r ⟨46,2,false,[.v (.int .i64 x.1),.v (.int .i64 x.2)]⟩] (fun r q=>q=[.r ⟨50,1,false,[.t 2 (Ao o)]⟩,.r ⟨46,2,false,[.v (.int .i64 x.1),.v (.int .i64 x.2)]⟩]/\r=.b (IJ o x.1 e)):=by
 refine A6 Tryz.func61 rfl (by rw [Tryz.ntmps61];simp) ?_
 rw [Tryz.ntmps61]
 have hb:=Td o x.1 e hn hs hh hc
 simp only [Bf,BK] at hb ⊢
 (refine Wt ?_;(repeat clear hK K);repeat refine kq fun K hK=>?_)
 (refine Wy hb ?_;intro K1 hK1)
 rintro _ _ ⟨rfl,rfl⟩
 (refine Wz ?_;clear hK1 K1)
 (refine Wt ?_;(repeat clear hK K);repeat refine kq fun K hK=>?_)
 exact Lq [0,1] Tryz.results61
theorem M1 (xs:List Int) (p:Int->Bool) (fn e k e2 k2:Nat) (us vs:List Tr) (hn:xs.length<=140737488355328) (hcal:Bh Tryz.prog fn=true)
  (hf:∀ x∈xs,FC Tryz.prog fn [.i x,.a (.c (.p 0 0)),.a (.c (.p 1 0))] [.r ⟨e,k,false,us.map C.ofTr⟩,.r ⟨e2,k2,false,vs.map C.ofTr⟩] (fun r o=>o=[.r ⟨e,k,false,us.map C.ofTr⟩,.r ⟨e2,k2,false,vs.map C.ofTr⟩]/\r=.b (p x))):
  FC Tryz.prog 96 [As xs,.a (.c (.f fn [0,1]))] [.r ⟨e,k,false,us.map C.ofTr⟩,.r ⟨e2,k2,false,vs.map C.ofTr⟩] (fun r o=>o=[.r ⟨e,k,false,us.map C.ofTr⟩,.r ⟨e2,k2,false,vs.map C.ofTr⟩]/\∃ n:Int,r=.i n /\ -1<=n/\(0<=n↔xs.any p=true)):=by
 refine A6 Tryz.func96 rfl (by rw [Tryz.ntmps96];simp) ?_
 rw [Tryz.ntmps96]
 simp only [Bf,As]
 (refine Wt ?_;(repeat clear hK K);repeat refine kq fun K hK=>?_)
 refine A8 (fun i:Nat=>{ tm:=[(0,.a (.c (.t 1 (Ab xs)))),(1,.a (.c (.f fn [0,1]))),(7,.i xs.length),(8,.i i)],hp:=[.r ⟨e,k,false,us.map C.ofTr⟩,.r ⟨e2,k2,false,vs.map C.ofTr⟩],n:=19,pin:=2 }) (fun i=>i<=xs.length/\∀ j x,j<i->xs[j]?=some x->p x=false) (fun i=>xs.length - i) 0 ?_ ?_ ?_
 ·exact ⟨by omega,by intro i x hi;omega⟩
 ·refine BG ?_
  simp only [Dg,A4,go_sem]
  simp
 rintro i ⟨hk,hno⟩ K hK
 (refine Wt ?_;(repeat clear hK K);repeat refine kq fun K hK=>?_)
 (refine At ?_;intro X Y hX hY;simp only [go_sem])
 refine ⟨fun h=>hX ?_,fun h=>hY ?_⟩
 rotate_left
 ·have hge:i=xs.length:=by simp at h;omega
  clear hX hY X Y
  (refine Wx ?_;repeat clear hK K)
  (refine Wt ?_;(repeat clear hK K);repeat refine kq fun K hK=>?_)
  refine WH Tryz.results96 ?_
  refine ⟨-1,rfl,by omega,?_⟩
  simp
  intro x hm
  obtain ⟨j,hj⟩:=List.mem_iff_getElem?.1 hm
  exact hno j x (by rw [hge];exact (List.getElem?_eq_some_iff.1 hj).1) hj
 have hlt:i<xs.length:=by simpa using h
 clear hX hY X Y h
 (refine Wu (an @A4 (Am (gE1 hlt))) ?_;(repeat clear hK K);repeat refine kq fun K hK=>?_)
 (refine Ai rfl ?_;intro K1 hK1;refine AH (ids:=[0,1]) [0,1] (hf xs[i] (gE6 hlt)) rfl rfl (by simp only [go_sem]) (by first | assumption | kernel_rfl) rfl rfl (by (simp only [List.map_append,List.append_nil,go_sem]) <;> rfl) (by (simp only [VS,go_sem]) <;> rfl) ?_ ?_)
 ·rintro _ _ ⟨rfl,rfl⟩;rfl
 rintro _ _ ⟨rfl,rfl⟩
 (refine Wz ?_;clear hK1 K1)
 (refine Wt ?_;(repeat clear hK K);repeat refine kq fun K hK=>?_)
 (refine At ?_;intro X Y hX hY;simp only [go_sem])
 refine ⟨fun h=>hX ?_,fun h=>hY ?_⟩
 ·clear hX hY X Y
  (refine Wt ?_;(repeat clear hK K);repeat refine kq fun K hK=>?_)
  refine WH Tryz.results96 ?_
  exact ⟨i,rfl,by omega,by simp;exact ⟨_,gE6 hlt,h⟩⟩
 clear hX hY X Y
 (refine Wt ?_;(repeat clear hK K);repeat refine kq fun K hK=>?_)
 refine WD ?_
 refine hK _ (i+1) ⟨by omega,fun j x hj hx=>?_⟩ (by omega) ?_
 rotate_left
 ·refine BG ?_
  simp only [Dg,go_sem]
  simp
 by_cases e:j=i
 ·subst e;rw [gE1 hlt] at hx;cases hx;exact h
 exact hno j x (by omega) hx

theorem HL (xs:List Int) (p:Int->Bool) (fn e k e2 k2:Nat) (us vs:List Tr) (hn:xs.length<=140737488355328) (hcal:Bh Tryz.prog fn=true)
  (hf:∀ x∈xs,FC Tryz.prog fn [.i x,.a (.c (.p 0 0)),.a (.c (.p 1 0))] [.r ⟨e,k,false,us.map C.ofTr⟩,.r ⟨e2,k2,false,vs.map C.ofTr⟩] (fun r o=>o=[.r ⟨e,k,false,us.map C.ofTr⟩,.r ⟨e2,k2,false,vs.map C.ofTr⟩]/\r=.b (p x))):
  FC Tryz.prog 60 [As xs,.a (.c (.f fn [0,1]))] [.r ⟨e,k,false,us.map C.ofTr⟩,.r ⟨e2,k2,false,vs.map C.ofTr⟩] (fun r o=>o=[.r ⟨e,k,false,us.map C.ofTr⟩,.r ⟨e2,k2,false,vs.map C.ofTr⟩]/\r=.b (xs.any p)):=by
 refine A6 Tryz.func60 rfl (by rw [Tryz.ntmps60];simp) ?_
 rw [Tryz.ntmps60]
 simp only [Bf,As]
 (refine Wt ?_;(repeat clear hK K);repeat refine kq fun K hK=>?_)
 (refine Ai rfl ?_;intro K1 hK1;refine cs [0,1] (M1 xs p fn e k e2 k2 us vs hn hcal hf) ?_ ?_)
 ·rintro _ _ ⟨rfl,n,rfl,hn1,hn2⟩;rfl
 rintro _ _ ⟨rfl,n,rfl,hn1,hn2⟩
 (refine Wz ?_;clear hK1 K1)
 (refine Wt ?_;(repeat clear hK K);repeat refine kq fun K hK=>?_)
 have e:decide (n>=0)=xs.any p:=by rw [Bool.eq_iff_iff,decide_eq_true_iff];exact hn2
 refine WH Tryz.results60 ?_
 simp only [e]
theorem L9 {α:Type} (l:List α) (i:Nat) (a b:α):(l.set i a).set i b=l.set i b:=List.set_set ..
def Ys (o:List Ar) (r:List Ar):List Ar:=r.filter fun a=>!(E5 r).any (fun e=>IJ o a.1 e)
def Yt (o:List Ar) (R:List (List Ar)) (k:Nat):List (List Ar):=(R.take k).map (Ys o)++List.replicate (R.length - k) []
theorem Te (o:List Ar) (R:List (List Ar)) (k:Nat) (h:k<=R.length):(Yt o R k).length=R.length:=by simp [Yt];omega
theorem Tf {o:List Ar} {R:List (List Ar)} {k:Nat} (h:k<R.length):(Yt o R k)[k]?=some []:=by
 unfold Yt
 rw [gEb (by simp;omega),List.length_map,List.length_take,Nat.min_eq_left (by omega),Nat.sub_self,List.getElem?_replicate,if_pos (by omega)]
theorem QL {o:List Ar} {R:List (List Ar)} {k:Nat} (h:k<R.length):Yt o R (k+1)=(Yt o R k).set k (Ys o R[k]):=by
 unfold Yt
 rw [List.set_append_right _ _ (by simp;omega),gE8 h,List.map_append,List.append_assoc]
 congr 1
 rw [List.length_map,List.length_take,Nat.min_eq_left (by omega),Nat.sub_self,show R.length - k=(R.length - (k+1))+1 by omega,List.replicate_succ]
 rfl
theorem Tg (o:List Ar) (R:List (List Ar)):Yt o R R.length=R.map (Ys o):=by simp [Yt]
theorem OL (o:List Ar) (r:List Ar):(Ys o r).length<=r.length:=List.length_filter_le _ _
theorem OM (o:List Ar):∀ R:List (List Ar),Bw (R.map (Ys o))<=Bw R
 | []=>Nat.le_refl _
 | r :: R=>by
  have h1:=OM o R
  have h2:=OL o r
  simp only [Bw,List.map_cons,List.sum_cons] at h1 ⊢
  omega
theorem Uz {R:List (List Ar)} (o:List Ar) (hv:Bv R=true):BE (R.map (Ys o))=true:=by
 have h:=(gE4 hv).1
 have ht:=OM o R
 refine gEg ⟨by rw [List.length_map];exact h.1,by rw [List.length_map];exact h.2.1,by have:=h.2.2.1;omega,?_⟩
 intro r hr a ha
 obtain ⟨q,hq,rfl⟩:=List.mem_map.1 hr
 rw [List.length_map]
 exact h.2.2.2 q hq a (List.mem_filter.1 ha).1
set_option maxHeartbeats 4000000 in
theorem ON (R:List (List Ar)) (o:List Ar) (hv:Bv R=true) (hn:R.length<=1000000) (hr:∀ r∈R,r.length<=1000000) (hol:o.length<=1000000) (ho:M8 o=true) (hs:SortA o) (hh:∀ a∈o,0<=a.2) (hc:∀ a∈o,E2 a.1=true):FC Tryz.prog 33 [B7 R,BK o] [] (fun r q=>q=[.r ⟨25,1,false,[.t 1 (Ah (BT (R.map (Ys o))).1)]⟩]/\r=.tup [.g [.t 1 (Ah (BT (R.map (Ys o))).1)],.c (.v (.int .i64 0))]):=by
 refine A6 Tryz.func33 rfl (by rw [Tryz.ntmps33];simp) ?_
 rw [Tryz.ntmps33]
 have hlo:BE R=true:=gEg (gE4 hv).1
 have h1:1<=R.length:=(gE4 hlo).1
 have hva:=CD R (by omega) (fun r h=>by have:=hr r h;omega)
 rw [hv] at hva
 have hpo:=Tc o (by omega)
 rw [ho] at hpo
 have hin:=fun s (h:s<R.length)=>Jv R s h hn hr
 simp only [Bf,B7,BK] at hva hpo hin ⊢
 (refine Wt ?_;(repeat clear hK K);repeat refine kq fun K hK=>?_)
 (refine Wy hva ?_;intro K1 hK1)
 rintro _ _ ⟨rfl,rfl⟩
 (refine Wz ?_;clear hK1 K1)
 (refine Wu @Bool.not_true ?_;(repeat clear hK K);repeat refine kq fun K hK=>?_)
 (refine BV rfl rfl (by simp only [go_sem] <;> rfl) ?_;intro K1 hK1;refine (Bb (ids:=[]) (hpo) rfl rfl (by simp only [go_sem]) (by kernel_rfl) (by (simp only [List.append_nil,go_sem]) <;> rfl) ?_).stp)
 rintro _ _ ⟨rfl,rfl⟩
 (refine Wz ?_;clear hK1 K1)
 (refine Wu @Bool.not_true ?_;(repeat clear hK K);repeat refine kq fun K hK=>?_)
 refine WC ?_
 (refine Wu @A3 ?_;(repeat clear hK K);repeat refine kq fun K hK=>?_)
 have e0:List.replicate R.length (C.o (2,46) [])=Aw (Yt o R 0):=by simp [Aw,Yt,Ao]
 rw [e0]
 refine A8 (fun k:Nat=>{ tm:=[(2,.a (.c (.p 0 0))),(3,.a (.c (.p 1 0))),(4,.a (.c (.p 2 0))),(5,.a (.c (.v (.int .i64 0)))),(6,.a (.c (.s 3 R.length))),(29,.a (.c (.t 1 (Ah R)))),(30,.i R.length),(31,.i k)],hp:=[.r ⟨25,1,false,[.t 1 (Ah R)]⟩,.r ⟨50,1,false,[.t 2 (Ao o)]⟩,.r ⟨25,1,false,[.v (.slice none 0 0)]⟩,.r ⟨42,1,true,Aw (Yt o R k)⟩],n:=70,pin:=0 }) (fun k=>k<=R.length) (fun k=>R.length - k) 0 ?_ ?_ ?_
 ·omega
 ·exact WE
 rintro k hk K hK
 by_cases hlt:k<R.length
 rotate_left
 ·have d1:decide ((k:Int)<(R.length:Int))=false:=by simpa using hlt
  have hke:k=R.length:=by omega
  subst hke
  rw [Tg]
  (refine Wu @d1 ?_;(repeat clear hK K);repeat refine kq fun K hK=>?_)
  refine WC ?_
  (refine Wx ?_;repeat clear hK K)
  refine Au (Cm 3 rfl) ?_
  simp only [Cl,go_sem]
  have hlC:=Uz o hv
  have hrC:∀ r∈R.map (Ys o),r.length<=1000000:=fun r h=>by
   obtain ⟨q,hq,rfl⟩:=List.mem_map.1 h
   have:=OL o q
   have:=hr q hq
   omega
  have hlm:(R.map (Ys o)).length=R.length:=List.length_map _
  generalize R.map (Ys o)=T at *
  have htk:(Ah T).take R.length=Ah T:=gE7 (by rw [A3];omega)
  (refine Au (Bg (r:=⟨42,1,true,AO T⟩) 3 (Ah T) rfl (CZ _) (show 0<(1:Nat) by omega)) ?_;simp only [ST.frz,A0.frz,AV.frz,C.frz,Nat.le_refl,List.set_cons_zero,List.set_cons_succ,go_sem,htk,A3,hlm])
  (refine Wt ?_;(repeat clear hK K);repeat refine kq fun K hK=>?_)
  (refine Wy (Iv T hlC (by omega) hrC) ?_;intro K1 hK1)
  rintro _ _ ⟨rfl,rfl⟩
  (refine Wz ?_;clear hK1 K1)
  (refine Jb ?_;(repeat clear hK K);repeat refine kq fun K hK=>?_)
  exact Lq [2] Tryz.results33
 have d1:decide ((k:Int)<(R.length:Int))=true:=by simpa using hlt
 have hg:=Ag (gE1 hlt)
 have hsu:=QL (o:=o) hlt
 have hXl:=Te o R k hk
 have hXg:=Tf (o:=o) hlt
 have hrl:=hr _ (gE6 hlt)
 generalize Yt o R k=Z at *
 (refine Wu @d1 ?_;(repeat clear hK K);repeat refine kq fun K hK=>?_)
 refine WB ?_
 (refine Wu (an @hg @A3) ?_;(repeat clear hK K);repeat refine kq fun K hK=>?_)
 (refine Wy (hin k hlt) ?_;intro K1 hK1)
 rintro _ _ ⟨rfl,rfl⟩
 (simp only [As,Bl,BQ,List.append_nil,List.nil_append,List.length_map,go_sem];refine hK1 _ ?_;clear hK1 K1)
 generalize R[k]=row at *
 have hrw:(Ys o row)=((row.take row.length).filter fun a=>!(E5 row).any (fun e=>IJ o a.1 e)):=by rw [List.take_length];rfl
 rw [hrw] at hsu
 have htk:(Ab (E5 row)).take (E5 row).length=Ab (E5 row):=gE7 (by rw [A4];exact Nat.le_refl _)
 (refine BS (Bg (r:=⟨3,1,true,A7 (E5 row)⟩) 4 (Ab (E5 row)) rfl (EM _) (show 0<(1:Nat) by omega)) ?_;simp only [ST.frz,A0.frz,AV.frz,C.frz,Nat.le_refl,List.set_cons_zero,List.set_cons_succ,go_sem,A4,htk])
 (refine Wu (an @A2 @Ak) ?_;(repeat clear hK K);repeat refine kq fun K hK=>?_)
 have hZ0:Z=Z.set k ((row.take 0).filter fun a=>!(E5 row).any (fun e=>IJ o a.1 e)):=by
  refine List.ext_getElem? fun j=>?_
  by_cases hj:k=j
  rotate_left
  ·rw [gE5 hj]
  subst hj
  rw [gEc (by omega),hXg];rfl
 refine A8 (fun j:Nat=>{ tm:=[(2,.a (.c (.p 0 0))),(3,.a (.c (.p 1 0))),(4,.a (.c (.p 2 0))),(5,.a (.c (.v (.int .i64 0)))),(6,.a (.c (.s 3 R.length))),(7,.i k),(9,.a (.c (.t 1 (Ab (E5 row))))),(29,.a (.c (.t 1 (Ah R)))),(30,.i R.length),(31,.i k),(39,.a (.c (.t 2 (Ao row)))),(40,.i row.length),(41,.i j)],hp:=[.r ⟨25,1,false,[.t 1 (Ah R)]⟩,.r ⟨50,1,false,[.t 2 (Ao o)]⟩,.r ⟨25,1,false,[.v (.slice none 0 0)]⟩,.r ⟨42,1,true,Aw (Z.set k ((row.take j).filter fun a=>!(E5 row).any (fun e=>IJ o a.1 e)))⟩],n:=70,pin:=0 }) (fun j=>j<=row.length) (fun j=>row.length - j) 0 ?_ ?_ ?_
 ·omega
 ·rw [<- hZ0]
  refine Le.trans (A9 [0,1,2,3] rfl rfl) ?_
  (try simp only [List.set_nil,List.take_nil,List.take_zero,List.map_append,go_sem])
  (try simp only [Ch])
  exact WE
 rintro j hj K hK
 by_cases hlj:j<row.length
 rotate_left
 ·have d2:decide ((j:Int)<(row.length:Int))=false:=by simpa using hlj
  have hje:j=row.length:=by omega
  subst hje
  rw [<- hsu]
  (refine Wu @d2 ?_;(repeat clear hK K);repeat refine kq fun K hK=>?_)
  refine WC ?_
  (refine Wx ?_;repeat clear hK K)
  (refine Wt ?_;(repeat clear hK K);repeat refine kq fun K hK=>?_)
  refine WD ?_
  refine hK _ (k+1) (by omega) (by omega) ?_
  exact WE
 have d2:decide ((j:Int)<(row.length:Int))=true:=by simpa using hlj
 have hat:=AL hlj
 have htj:=gE8 hlj
 obtain ⟨e,t,hya⟩:∃ e t,row[j]=(e,t):=⟨_,_,rfl⟩
 rw [hya] at hat htj
 have hil:=KS row
 have hcf:=HL (E5 row) (fun x=>IJ o e x) 61 50 1 46 2 [Tr.l 2 (Ao o)] [Tr.v (.int .i64 e),Tr.v (.int .i64 t)] (by omega) (by kernel_rfl) (fun x _=>Uy o (e,t) x hol hs hh hc)
 simp only [As,List.map_cons,List.map_nil,go_sem] at hcf
 (refine Wu @d2 ?_;(repeat clear hK K);repeat refine kq fun K hK=>?_)
 refine WB ?_
 (refine Cn (an @hat (an @A2 @Ak)) ?_;(repeat clear hK K);repeat refine kq fun K hK=>?_)
 (refine Ai rfl ?_;intro K1 hK1;refine cs [1,4] (hcf) ?_ ?_)
 ·rintro _ _ ⟨rfl,rfl⟩;rfl
 rintro _ _ ⟨rfl,rfl⟩
 (refine Wz ?_;clear hK1 K1)
 (refine Wt ?_;(repeat clear hK K);repeat refine kq fun K hK=>?_)
 (refine At ?_;intro X Y hX hY;simp only [go_sem])
 refine ⟨fun h=>hX ?_,fun h=>hY ?_⟩
 rotate_left
 ·have hkp:((row.take (j+1)).filter fun a=>!(E5 row).any (fun e=>IJ o a.1 e))=((row.take j).filter fun a=>!(E5 row).any (fun e=>IJ o a.1 e)):=by
   rw [htj,List.filter_append,List.filter_cons_of_neg (by simpa using h),List.filter_nil,List.append_nil]
  clear hX hY X Y
  (refine Wt ?_;(repeat clear hK K);repeat refine kq fun K hK=>?_)
  refine WD ?_
  refine hK _ (j+1) (by omega) (by omega) ?_
  refine Le.trans (A9 [0,1,2,3] rfl rfl) ?_
  (try simp only [List.set_nil,List.take_nil,List.take_zero,List.map_append,go_sem])
  (try simp only [Af,Ch])
  rw [hkp]
  exact WE
 have hkp:((row.take (j+1)).filter fun a=>!(E5 row).any (fun e=>IJ o a.1 e))=((row.take j).filter fun a=>!(E5 row).any (fun e=>IJ o a.1 e))++[(e,t)]:=by
  rw [htj,List.filter_append,List.filter_cons_of_pos (by simpa using h),List.filter_nil]
 have hcl:((row.take j).filter fun a=>!(E5 row).any (fun e=>IJ o a.1 e)).length<=1000000:=Nat.le_trans (List.length_filter_le _ _) (by rw [List.length_take];omega)
 generalize ((row.take j).filter fun a=>!(E5 row).any (fun e=>IJ o a.1 e))=oc at *
 have hYl:(Z.set k oc).length=R.length:=by rw [List.length_set];exact hXl
 have hgo:(Z.set k oc)[k]?=some oc:=gEc (by omega)
 have hYs:(Z.set k oc).set k (oc++[(e,t)])=Z.set k (oc++[(e,t)]):=List.set_set ..
 generalize Z.set k oc=Y2 at *
 clear hX hY X Y
 (refine AJ [] (.m 0 0 0 (.m 1 0 0 (.m 2 0 0 (.m 3 0 0 (.m 4 0 0 (.m 5 1 8 (.m 6 1 7 (.a 7 (.a 8 (.m 9 0 0 (.a 10 .e))))))))))) (by kernel_rfl) (by kernel_rfl) (by intro c st h;simp [Ae,AF,VT] at h) ?_)
 (refine Ww (an @AB (an (B8 hgo) @hYl)) ?_;repeat clear hK K)
 (refine Wj rfl rfl ?_;intro K1 hK1;refine Bx rfl ?_;simp only [go_sem];(first | refine hK1 _ ?_ | refine AD (hK1 _ ?_));clear hK1 K1)
 (refine Ga rfl rfl rfl ?_;intro K1 hK1;refine CK rfl rfl rfl rfl (by first | rfl | simp only [CQ,List.getD_cons_zero,List.getD_cons_succ,hne,List.isEmpty_cons,Bool.not_false,Bool.true_and,Bool.and_true,Bool.and_self]) rfl ?_;simp only [go_sem,Cp,A2,Ak,BF,B8 hgo];(first | refine hK1 _ ?_ | refine AD (hK1 _ ?_));clear hK1 K1)
 (refine Ww (an @AB @hYl) ?_;repeat clear hK K)
 (refine Wk rfl rfl rfl rfl ?_;intro K1 hK1;refine AP rfl ?_;simp only [go_sem,AB,List.length_set,L9,hYl];(first | refine hK1 _ ?_ | refine AD (hK1 _ ?_));clear hK1 K1)
 refine CL ⟨by simp,by simp,?_⟩
 (try simp only [Ae,AF])
 refine hK _ ?_
 clear hK K
 have hj6:((Aw Y2).set k (C.s 6 (oc.length+1)))[k]?=some (.s 6 (oc.length+1)):=by rw [gEc (by rw [AB];omega)]
 have hset6:((Aw Y2).set k (C.s 6 (oc.length+1))).set k (.o (2,46) (Ao (oc++[(e,t)])))=Aw (Y2.set k (oc++[(e,t)])):=by rw [L9,C3]
 refine Au (AR (r:=⟨46,2,true,Ax (oc++[(e,t)])⟩) (ri:=⟨42,1,true,(Aw Y2).set k (C.s 6 (oc.length+1))⟩) (ts:=Ao (oc++[(e,t)])) 3 k 6 (oc.length+1) (by decide) rfl hj6 rfl rfl (show 0<2 by omega) (by rw [Ap];simp) (Dl _)) ?_
 simp only [hset6,go_sem]
 (refine Wt ?_;(repeat clear hK K);repeat refine kq fun K hK=>?_)
 refine WD ?_
 refine hK _ (j+1) (by omega) (by omega) ?_
 refine Le.trans (A9 [0,1,2,3] rfl rfl) ?_
 (try simp only [List.set_nil,List.take_nil,List.take_zero,List.map_append,go_sem])
 (try simp only [Af,Ch])
 rw [hkp,<- hYs]
 exact WE
def Yu:List (List Ar):=[[(2,1),(3,2)],[],[]]
def Yv:List (List Ar):=[[(0,1),(2,2),(3,2)],[],[]]
def Yw:List (List Ar):=[[(3,1)],[]]
def Yx:List (List Ar):=[[(0,1),(3,2)],[],[]]
theorem V5:(BT (Yu.map (Ys [(2,3)]))).1=Yw:=by kernel_rfl
theorem V6:(BT (Yv.map (Ys [(2,3)]))).1=Yx:=by kernel_rfl
theorem V7:Bv Yu=true:=by kernel_rfl
theorem V8:Bv Yv=true:=by kernel_rfl
theorem Vj:M8 [(2,3)]=true:=by kernel_rfl
theorem Vk:SortA [(2,3)]:=by simp [SortA]
set_option maxHeartbeats 2000000 in
theorem OO:FC Tryz.prog 13 [] [] (fun r _=>r=.b true):=by
 refine A6 Tryz.func13 rfl (by rw [Tryz.ntmps13];simp) ?_
 rw [Tryz.ntmps13]
 simp only [Bf]
 have hpA:=ON Yu [(2,3)] V7 (by decide) (by decide) (by decide) Vj Vk (by decide) (by decide)
 have hpB:=ON Yv [(2,3)] V8 (by decide) (by decide) (by decide) Vj Vk (by decide) (by decide)
 rw [V5] at hpA
 rw [V6] at hpB
 have hsC:=JC Yw (by decide) (by decide)
 have hsD:=JC Yx (by decide) (by decide)
 simp only [B7,BK] at hpA hpB hsC hsD
 (refine Jb ?_;(repeat clear hK K);repeat refine kq fun K hK=>?_)
 refine BS (AR (r:=⟨46,2,true,Ax [(2,1),(3,2)]⟩) (ts:=Ao [(2,1),(3,2)]) 2 0 1 2 (by decide) rfl rfl rfl rfl (show 0<2 by omega) rfl (Dl _)) ?_
 simp only [go_sem]
 refine BS (Nk 2 [2,2,2] rfl) ?_
 simp only [X5,VX,go_sem]
 (refine BS (Bg (r:=⟨42,1,true,AO Yu⟩) 2 (Ah Yu) rfl (CZ _) (show 0<(1:Nat) by omega)) ?_;simp only [ST.frz,A0.frz,AV.frz,C.frz,Nat.le_refl,List.set_cons_zero,List.set_cons_succ,go_sem,show (Ah Yu).take 3=Ah Yu from rfl,show (if 3<=(Ah Yu).length then C.t 1 (Ah Yu) else C.u)=C.t 1 (Ah Yu) from rfl])
 (refine BS (Bg (r:=⟨49,2,true,Ax [(2,3)]⟩) 0 (Ao [(2,3)]) rfl (Dl _) (show 0<(2:Nat) by omega)) ?_;simp only [ST.frz,A0.frz,AV.frz,C.frz,Nat.le_refl,List.set_cons_zero,List.set_cons_succ,go_sem,show (Ao [(2,3)]).take (1*2)=Ao [(2,3)] from rfl,show (Ao [(2,3)]).take 2=Ao [(2,3)] from rfl,show (if 1*2<=(Ao [(2,3)]).length then C.t 2 (Ao [(2,3)]) else C.u)=C.t 2 (Ao [(2,3)]) from rfl,show (if 2<=(Ao [(2,3)]).length then C.t 2 (Ao [(2,3)]) else C.u)=C.t 2 (Ao [(2,3)]) from rfl])
 (refine Wy hpA ?_;intro K1 hK1)
 rintro _ _ ⟨rfl,rfl⟩
 (refine Wz ?_;clear hK1 K1)
 (refine Jb ?_;(repeat clear hK K);repeat refine kq fun K hK=>?_)
 refine BS (AR (r:=⟨46,2,true,Ax [(0,1),(2,2),(3,2)]⟩) (ts:=Ao [(0,1),(2,2),(3,2)]) 6 0 5 3 (by decide) rfl rfl rfl rfl (show 0<2 by omega) rfl (Dl _)) ?_
 simp only [go_sem]
 refine BS (Nk 6 [2,2,2] rfl) ?_
 simp only [X5,VX,go_sem]
 (refine BS (Bg (r:=⟨42,1,true,AO Yv⟩) 6 (Ah Yv) rfl (CZ _) (show 0<(1:Nat) by omega)) ?_;simp only [ST.frz,A0.frz,AV.frz,C.frz,Nat.le_refl,List.set_cons_zero,List.set_cons_succ,go_sem,show (Ah Yv).take 3=Ah Yv from rfl,show (if 3<=(Ah Yv).length then C.t 1 (Ah Yv) else C.u)=C.t 1 (Ah Yv) from rfl])
 (refine Wy hpB ?_;intro K1 hK1)
 rintro _ _ ⟨rfl,rfl⟩
 (refine Wz ?_;clear hK1 K1)
 (refine Jb ?_;(repeat clear hK K);repeat refine kq fun K hK=>?_)
 refine BS (AR (r:=⟨46,2,true,Ax [(3,1)]⟩) (ts:=Ao [(3,1)]) 10 0 9 1 (by decide) rfl rfl rfl rfl (show 0<2 by omega) rfl (Dl _)) ?_
 simp only [go_sem]
 refine BS (Nk 10 [2,2] rfl) ?_
 simp only [X5,VX,go_sem]
 (refine BS (Bg (r:=⟨42,1,true,AO Yw⟩) 10 (Ah Yw) rfl (CZ _) (show 0<(1:Nat) by omega)) ?_;simp only [ST.frz,A0.frz,AV.frz,C.frz,Nat.le_refl,List.set_cons_zero,List.set_cons_succ,go_sem,show (Ah Yw).take 2=Ah Yw from rfl,show (if 2<=(Ah Yw).length then C.t 1 (Ah Yw) else C.u)=C.t 1 (Ah Yw) from rfl])
 (refine BV rfl rfl (by simp only [go_sem] <;> rfl) ?_;intro K1 hK1;refine (Bb (ids:=[]) (hsC) rfl rfl (by simp only [go_sem]) (by kernel_rfl) (by (simp only [List.append_nil,go_sem]) <;> rfl) ?_).stp)
 rintro _ _ ⟨rfl,rfl⟩
 (refine Wz ?_;clear hK1 K1)
 (refine Jb ?_;(repeat clear hK K);repeat refine kq fun K hK=>?_)
 refine BS (AR (r:=⟨46,2,true,Ax [(0,1),(3,2)]⟩) (ts:=Ao [(0,1),(3,2)]) 12 0 11 2 (by decide) rfl rfl rfl rfl (show 0<2 by omega) rfl (Dl _)) ?_
 simp only [go_sem]
 refine BS (Nk 12 [2,2,2] rfl) ?_
 simp only [X5,VX,go_sem]
 (refine BS (Bg (r:=⟨42,1,true,AO Yx⟩) 12 (Ah Yx) rfl (CZ _) (show 0<(1:Nat) by omega)) ?_;simp only [ST.frz,A0.frz,AV.frz,C.frz,Nat.le_refl,List.set_cons_zero,List.set_cons_succ,go_sem,show (Ah Yx).take 3=Ah Yx from rfl,show (if 3<=(Ah Yx).length then C.t 1 (Ah Yx) else C.u)=C.t 1 (Ah Yx) from rfl])
 (refine BV rfl rfl (by simp only [go_sem] <;> rfl) ?_;intro K1 hK1;refine (Bb (ids:=[]) (hsD) rfl rfl (by simp only [go_sem]) (by kernel_rfl) (by (simp only [List.append_nil,go_sem]) <;> rfl) ?_).stp)
 rintro _ _ ⟨rfl,rfl⟩
 (refine Wz ?_;clear hK1 K1)
 (refine Wt ?_;(repeat clear hK K);repeat refine kq fun K hK=>?_)
 exact M6 Tryz.results13
theorem Th (T : List Int) (hT : TpOk T) (a0 m : Nat) (ha : a0 <= 500000) (hm : 1 <= m) (hm2 : m <= 8) :
  FC Tryz.prog 8 [.a (.c (.p 0 0)), .i m] [tape T a0] (fun r o => ∃ (a' : Nat) (R : List (List Ar)), (o = [tape T a', Kv R] /\ r = B7 R) /\ a' <= a0 + 70 /\ 1 <= R.length /\ Bv R = true /\ R.length <= 8 /\ Bw R <= 200 /\ ∀ r ∈ R, r.length <= 10) :=
 (QD T hT a0 m ha (by omega) (by omega)).mono fun r o ⟨a', R, h0, h1, h2, h3, h4, h5⟩ => by
  obtain ⟨q1, q2, q3⟩ := Rg h5 rfl h3 (by omega) (by omega)
  exact ⟨a', R, ⟨h0, h1⟩, by omega, h3, q1, by omega, q2, q3⟩
theorem Ti (T : List Int) (hT : TpOk T) (a0 m : Nat) (ha : a0 <= 500000) (hm : 1 <= m) (hm2 : m <= 8) :
  FC Tryz.prog 10 [.a (.c (.p 0 0)), .i m] [tape T a0] (fun r o => ∃ (a' : Nat) (R : List (List Ar)), (o = [tape T a', Kv R] /\ r = B7 R) /\ a' <= a0 + 70 /\ 1 <= R.length /\ Bv R = true /\ R.length <= m /\ Bw R <= 200 /\ ∀ r ∈ R, r.length <= 10) :=
 (T9 T hT a0 m ha hm (by omega)).mono fun r o ⟨a', R, h0, h2, h3, h4, h5⟩ => by
  obtain ⟨q1, q2, q3⟩ := Rg h5 rfl h3 (by omega) (by omega)
  exact ⟨a', R, h0, by omega, h3, q1, by omega, q2, q3⟩
set_option maxHeartbeats 2000000 in
theorem OP (T:List Int) (hT:TpOk T) (R0:List (List Ar)) (hn0:R0.length<=140737488355328) (hr0:∀ r∈R0,r.length<=140737488355328):FC Tryz.prog 3 [As T,B7 R0] [] (fun r _=>r=.b true):=by
 refine A6 Tryz.func3 rfl (by rw [Tryz.ntmps3];simp) ?_
 rw [Tryz.ntmps3]
 simp only [Bf,As,B7]
 (refine Wt ?_;(repeat clear hK K);repeat refine kq fun K hK=>?_)
 (refine Wy (TV T) ?_;intro K1 hK1)
 rintro _ _ ⟨rfl,rfl⟩
 (simp only [As,Bl,tape,List.append_nil,List.nil_append,List.length_map,go_sem];refine hK1 _ ?_;clear hK1 K1)
 (refine Wt ?_;(repeat clear hK K);repeat refine kq fun K hK=>?_)
 refine A8 (fun p:Nat × Nat=>{ tm:=[(3,.a (.c (.p 0 0))),(5,.a (.c (.p 1 0))),(6,.i p.1)],hp:=[.r ⟨25,1,false,[.t 1 (Ah R0)]⟩,.r ⟨41,2,false,[.t 1 (Ab T),.v (.int .i64 p.2)]⟩],n:=41,pin:=0 }) (fun p=>p.1<=4/\p.2<=200*p.1) (fun p=>4 - p.1) (0,0) ?_ ?_ ?_
 ·exact ⟨by simp,by simp⟩
 ·exact WE
 rintro ⟨k,a⟩ ⟨hk,ha⟩ K hK
 simp only at hk ha ⊢
 (refine Wt ?_;(repeat clear hK K);repeat refine kq fun K hK=>?_)
 (refine At ?_;intro X Y hX hY;simp only [go_sem])
 refine ⟨fun h=>hX ?_,fun h=>hY ?_⟩
 rotate_left
 ·clear hX hY X Y
  (refine Wx ?_;repeat clear hK K)
  (refine Wt ?_;(repeat clear hK K);repeat refine kq fun K hK=>?_)
  (refine Wy (T7 R0 hn0 hr0) ?_;intro K1 hK1)
  rintro _ _ ⟨rfl,rfl⟩
  (refine Wz ?_;clear hK1 K1)
  cases hb:HI R0 with
  | true=>
   (refine Wt ?_;(repeat clear hK K);repeat refine kq fun K hK=>?_)
   exact M6 Tryz.results3
  | false=>
   have hb2:R0.length<=12/\Bw R0<=60:=by
    unfold HI at hb
    simp only [Bool.or_eq_false_iff,decide_eq_false_iff_not] at hb
    omega
   have hb3:∀ r∈R0,r.length<=1000000:=fun r h=>by have:=Q6 r h;omega
   (refine Wt ?_;(repeat clear hK K);repeat refine kq fun K hK=>?_)
   (refine BV rfl rfl (by simp only [go_sem] <;> rfl) ?_;intro K1 hK1;refine (Bb (ids:=[]) (EL R0 (by omega) hb3) rfl rfl (by simp only [go_sem]) (by kernel_rfl) (by (simp only [List.append_nil,go_sem]) <;> rfl) ?_).stp)
   rintro _ _ ⟨rfl,rfl⟩
   (refine Wz ?_;clear hK1 K1)
   (refine Wt ?_;(repeat clear hK K);repeat refine kq fun K hK=>?_)
   (refine BV rfl rfl (by simp only [go_sem] <;> rfl) ?_;intro K1 hK1;refine (Bb (ids:=[]) (OO) rfl rfl (by simp only [go_sem]) (by kernel_rfl) (by (simp only [List.append_nil,go_sem]) <;> rfl) ?_).stp)
   rintro _ _ rfl
   (refine Wz ?_;clear hK1 K1)
   (refine Wt ?_;(repeat clear hK K);repeat refine kq fun K hK=>?_)
   exact M6 Tryz.results3
 have hlt:k<4:=by simp at h;omega
 clear hX hY X Y h
 (refine Wt ?_;(repeat clear hK K);repeat refine kq fun K hK=>?_)
 (refine Ai rfl ?_;intro K1 hK1;refine ct [1] (Th T hT a 6 (by omega) (by omega) (by omega)) ?_ ?_)
 ·rintro _ _ ⟨_,_,⟨rfl,rfl⟩,_⟩;rfl
 rintro _ _ ⟨a1,X,⟨rfl,rfl⟩,ha1,hX1,hXv,hXn,hXt,hXr⟩
 (simp only [As,Bl,tape,Kv,B7,List.append_nil,List.nil_append,List.length_map,go_sem];refine hK1 _ ?_;clear hK1 K1)
 (refine Jb ?_;(repeat clear hK K);repeat refine kq fun K hK=>?_)
 (refine Wy (EL X (by omega) (fun r h=>by have:=hXr r h;omega)) ?_;intro K1 hK1)
 rintro _ _ ⟨rfl,rfl⟩
 (refine Wz ?_;clear hK1 K1)
 (refine Wu @Bool.not_true ?_;(repeat clear hK K);repeat refine kq fun K hK=>?_)
 (refine BV rfl rfl (by simp only [go_sem] <;> rfl) ?_;intro K1 hK1;refine ct [1] (Ti T hT a1 6 (by omega) (by omega) (by omega)) ?_ ?_)
 ·rintro _ _ ⟨_,_,⟨rfl,rfl⟩,_⟩;rfl
 rintro _ _ ⟨a2,Y1,⟨rfl,rfl⟩,ha2,hY1,hYv,hYn,hYt,hYr⟩
 (simp only [As,Bl,tape,Kv,B7,List.append_nil,List.nil_append,List.length_map,go_sem];refine hK1 _ ?_;clear hK1 K1)
 (refine BV rfl rfl (by simp only [go_sem] <;> rfl) ?_;intro K1 hK1;refine (Bb (ids:=[]) (EL Y1 (by omega) (fun r h=>by have:=hYr r h;omega)) rfl rfl (by simp only [go_sem]) (by kernel_rfl) (by (simp only [List.append_nil,go_sem]) <;> rfl) ?_).stp)
 rintro _ _ ⟨rfl,rfl⟩
 (refine Wz ?_;clear hK1 K1)
 (refine Wu @Bool.not_true ?_;(repeat clear hK K);repeat refine kq fun K hK=>?_)
 (refine BV rfl rfl (by simp only [go_sem] <;> rfl) ?_;intro K1 hK1;refine ct [1] (PO T hT a2 X (by omega) hX1 (by omega) (fun r h=>by have:=hXr r h;omega)) ?_ ?_)
 ·rintro _ _ ⟨_,_,rfl,rfl,_⟩;rfl
 rintro _ _ ⟨a3,Z,rfl,rfl,ha3,hZn,hZr⟩
 (simp only [As,Bl,tape,Kv,B7,List.append_nil,List.nil_append,List.length_map,go_sem];refine hK1 _ ?_;clear hK1 K1)
 (refine BV rfl rfl (by simp only [go_sem] <;> rfl) ?_;intro K1 hK1;refine (Bb (ids:=[]) (EL Z (by omega) (fun r h=>by have:=hZr r h;omega)) rfl rfl (by simp only [go_sem]) (by kernel_rfl) (by (simp only [List.append_nil,go_sem]) <;> rfl) ?_).stp)
 rintro _ _ ⟨rfl,rfl⟩
 (refine Wz ?_;clear hK1 K1)
 (refine Wu @Bool.not_true ?_;(repeat clear hK K);repeat refine kq fun K hK=>?_)
 refine WC ?_
 (refine Wt ?_;(repeat clear hK K);repeat refine kq fun K hK=>?_)
 refine WD ?_
 refine hK _ (k+1,a3) ⟨by simp only;omega,by simp only;omega⟩ (by simp only;omega) ?_
 refine Le.trans (A9 [0,1] rfl rfl) ?_
 (try simp only [List.set_nil,List.take_nil,List.take_zero,List.map_append,go_sem])
 exact WE
end Go.Proofs.YtjijjfkalheokaaGreatDoor
