/- Lemmas. -/
import Derived.Test.YtjijjfkalheokaaGreatDoorZk
import Derived.Test.YtjijjfkalheokaaGreatDoorG39
import Derived.Test.YtjijjfkalheokaaGreatDoorMob
import Derived.Test.YtjijjfkalheokaaGreatDoorW07
import Derived.Test.YtjijjfkalheokaaGreatDoorTl3
import Derived.Test.YtjijjfkalheokaaGreatDoorG59
import Derived.Test.YtjijjfkalheokaaGreatDoorMno
import Derived.Test.YtjijjfkalheokaaGreatDoorG11
namespace Go.Proofs.YtjijjfkalheokaaGreatDoor
set_option linter.unusedVariables false
set_option linter.unusedSimpArgs false
open Go.RowKit
set_option maxRecDepth 100000
attribute [local go_sem] lga C.pl C.one

def dw (A:List (List Ar)) (cm oq:List Int) (dv:List Bool):Row:=⟨67,4,false,[.t 1 (Ah A),.t 1 (Ab cm),.t 1 (Ab oq),.t 1 (X6 dv)]⟩
def dx (xs:List (List Ar)):List C:=xs.map fun r=>.o (2,106) (Ao r)
theorem QQ (xs:List (List Ar)):(dx xs).length=xs.length:=by simp [dx]
theorem cf {xs:List (List Ar)} {i:Nat} {x:List Ar} (h:xs[i]?=some x):(dx xs)[i]?=some (.o (2,106) (Ao x)):=by simp [dx,h]
theorem ci (xs:List (List Ar)) (i:Nat) (x:List Ar):(dx xs).set i (.o (2,106) (Ao x))=dx (xs.set i x):=by simp [dx,List.map_set]
theorem cg (f:List Nat) (L:List (List Ar)):(dx L).map (C.ren f)=dx L:=by simp [dx,C.ren,Function.comp_def]
theorem dc (L:List (List Ar)):(dx L).map VX=AO L:=by simp [dx,AO,VX,Function.comp_def]
theorem ch (f:Nat->Nat) (L:List Ar):(Ax L).map (C.up f)=Ax L:=by
 rw [Gm,List.map_map]
 simp [C.up,Function.comp_def]
theorem cn (q:List Ar) (ys:List C) (f:C->C) (hf:(Ax q).map f=Ax q):((Ax q++ys).map f).take (q.length*2)=Ax q:=by
 rw [List.map_append,hf,List.take_append_of_le_length (by rw [Ap];exact Nat.le_refl _),gE7 (by rw [Ap];exact Nat.le_refl _)]
set_option maxHeartbeats 8000000 in
theorem de (X:List (List Ar)) (D cl:List Int) (Q:List Nat) (dv:List Bool) (hv:Bv X=true) (hn:X.length<=100) (ht:Bw X<=1000) (hr:∀ r∈X,r.length<=1000000) (hD:CpOk X D) (hQ:Hr (Xy (XG D) X X.length) X.length (XG D) Q) (hcl:cl.length=X.length):FC Tryz.prog 85 [.a (.c (.p 0 0)),As cl] [.r (dw X D (Q.map Int.ofNat) dv)] (fun r o=>∃ O,P3 (XG D) cl X Q Q.length O/\r=.a (.c (.s 1 X.length))/\o=[.r (dw X D (Q.map Int.ofNat) dv),.r ⟨104,1,true,AO O⟩]):=by
 refine A6 Tryz.func85 rfl (by rw [Tryz.ntmps85];simp) ?_
 rw [Tryz.ntmps85]
 have hlo:BE X=true:=gEg (gE4 hv).1
 have hbd:=(gE4 hlo).2.2.2
 have hDl:=hD.1
 simp only [Bf,As,dw]
 (refine Wu (an @A3 (an @A4 @hDl)) ?_;(repeat clear hK K);repeat refine kq fun K hK=>?_)
 have e0:List.replicate X.length (C.o (2,106) [])=dx (XR (XG D) cl X 0):=by rw [cG];simp [dx,Ao]
 rw [e0]
 refine A8 (fun k:Nat=>{ tm:=[(0,.a (.c (.p 0 0))),(1,.a (.c (.t 1 (Ab cl)))),(5,.a (.c (.s 1 X.length))),(30,.a (.c (.t 1 (Ab D)))),(31,.i X.length),(32,.i k)],hp:=[.r (dw X D (Q.map Int.ofNat) dv),.r ⟨104,1,true,dx (XR (XG D) cl X k)⟩],n:=190,pin:=1 }) (fun k=>k<=X.length) (fun k=>X.length - k) 0 ?_ ?_ ?_
 ·omega
 ·simp only [dw]
  exact WE
 rintro k hk K hK
 simp only [dw]
 by_cases hlt:k<X.length
 ·have d1:decide ((k:Int)<(X.length:Int))=true:=by simpa using hlt
  have hgX:=gE1 hlt
  have hgd:X.getD k []=X[k]:=by rw [gE2,hgX];rfl
  have hrl:=hr _ (gE6 hlt)
  have hb:=hbd _ (gE6 hlt)
  obtain ⟨gD0,hfk,_⟩:=BN hv hD hlt
  have gD:=Am gD0
  have hkc:k<cl.length:=by omega
  have gc:=Am (gE1 hkc)
  have hcd:cl.getD k 0=cl[k]:=by rw [gE2,gE1 hkc];rfl
  have hgo:=Sh (f:=XG D) (cl:=cl) (k:=k) hfk
  have hcl2:=NN (XG D) cl X (XG D k) k hk
  have htk:=Hi X k
  have hsu:=cH (cl:=cl) (k:=k) hfk
  have hLl:=NM (XG D) cl X k
  have hS:XP cl X k=(0,cl[k]) :: XO cl X[k]:=by unfold XP;rw [hgd,hcd]
  rw [hS] at hsu
  generalize X[k]=row at *
  generalize cl[k]=ck at *
  generalize XQ (XG D) cl X k (XG D k)=oc at *
  generalize XR (XG D) cl X k=B at *
  generalize XG D k=fk at *
  (refine Wu @d1 ?_;(repeat clear hK K);repeat refine kq fun K hK=>?_)
  refine WB ?_
  (refine Wu (an @A4 (an @gD @hDl)) ?_;(repeat clear hK K);repeat refine kq fun K hK=>?_)
  (refine AJ [] (.m 0 0 0 (.m 1 0 0 (.m 2 0 0 (.m 3 0 0 (.m 4 0 0 (.m 5 1 12 (.m 6 0 0 (.m 7 0 0 (.m 8 0 0 (.m 9 1 11 (.m 10 0 0 (.a 11 (.a 12 (.m 13 0 0 (.a 14 .e))))))))))))))) (by kernel_rfl) (by kernel_rfl) (by intro c st h;simp [Ae,AF,VT] at h) ?_)
  have hgo':=cf hgo
  (refine Ww (an @QQ (an (cf hgo) (an @hLl (an @A4 (an @hcl (an @gc (an @A2 @Ak))))))) ?_;repeat clear hK K)
  (refine Wj rfl rfl ?_;intro K1 hK1;refine Bx rfl ?_;simp only [go_sem];(first | refine hK1 _ ?_ | refine AD (hK1 _ ?_));clear hK1 K1)
  (refine Ga rfl rfl rfl ?_;intro K1 hK1;refine CK rfl rfl rfl rfl (by first | rfl | simp only [CQ,List.getD_cons_zero,List.getD_cons_succ,hne,List.isEmpty_cons,Bool.not_false,Bool.true_and,Bool.and_true,Bool.and_self]) rfl ?_;simp only [go_sem,Cp,A2,Ak,BF,cf hgo];(first | refine hK1 _ ?_ | refine AD (hK1 _ ?_));clear hK1 K1)
  (refine Ww (an @QQ @hLl) ?_;repeat clear hK K)
  (refine Wk rfl rfl rfl rfl ?_;intro K1 hK1;refine AP rfl ?_;simp only [go_sem,QQ,List.length_set,CV,hLl];(first | refine hK1 _ ?_ | refine AD (hK1 _ ?_));clear hK1 K1)
  refine CL ⟨by simp,by simp,?_⟩
  (try simp only [Ae,AF])
  refine hK _ ?_
  clear hK K
  have hfB:fk<B.length:=by omega
  have hj6:((dx (B)).set fk (C.s 3 ((oc).length+1)))[fk]?=some (.s 3 ((oc).length+1)):=by rw [gEc (by rw [QQ];first | assumption | omega)]
  have hset6:((dx (B)).set fk (C.s 3 ((oc).length+1))).set fk (.o (2,106) (Ao (oc++[(0,ck)])))=dx ((B).set fk (oc++[(0,ck)])):=by rw [CV,ci]
  refine Au (AR (r:=⟨106,2,true,Ax (oc++[(0,ck)])⟩) (ri:=⟨104,1,true,(dx (B)).set fk (C.s 3 ((oc).length+1))⟩) (ts:=Ao (oc++[(0,ck)])) 1 fk 3 ((oc).length+1) (by decide) rfl hj6 rfl rfl (show 0<2 by omega) (by rw [Ap];simp) (Dl _)) ?_
  simp only [hset6,go_sem]
  refine Au (A9 [0,1] rfl rfl) ?_
  (try simp only [List.set_nil,List.take_nil,List.take_zero,List.map_append,go_sem])
  (try simp only [cg])
  (refine Wu (an @A3 (an (Ag hgX) (an @A2 @Ak))) ?_;(repeat clear hK K);repeat refine kq fun K hK=>?_)
  refine A8 (fun j:Nat=>{ tm:=[(0,.a (.c (.p 0 0))),(1,.a (.c (.t 1 (Ab cl)))),(5,.a (.c (.s 1 X.length))),(7,.i fk),(30,.a (.c (.t 1 (Ab D)))),(31,.i X.length),(32,.i k),(58,.a (.c (.t 2 (Ao row)))),(59,.i row.length),(60,.i j)],hp:=[.r (dw X D (Q.map Int.ofNat) dv),.r ⟨104,1,true,dx (B.set fk (oc++(0,ck) :: XO cl (row.take j)))⟩],n:=190,pin:=1 }) (fun j=>j<=row.length) (fun j=>row.length - j) 0 ?_ ?_ ?_
  ·omega
  ·simp only [dw,List.take_zero,XO,List.filterMap_nil]
   exact WE
  rintro j hj K hK
  simp only [dw]
  by_cases hlt2:j<row.length
  rotate_left
  ·have d2:decide ((j:Int)<(row.length:Int))=false:=by simpa using hlt2
   have htr:row.take j=row:=gE7 (by omega)
   rw [htr,hsu]
   (refine Wu @d2 ?_;(repeat clear hK K);repeat refine kq fun K hK=>?_)
   refine WC ?_
   (refine Wx ?_;repeat clear hK K)
   (refine Wt ?_;(repeat clear hK K);repeat refine kq fun K hK=>?_)
   refine WD ?_
   refine hK _ (k+1) (by omega) (by omega) ?_
   simp only [dw]
   exact WE
  have d2:decide ((j:Int)<(row.length:Int))=true:=by simpa using hlt2
  have hat:=AL hlt2
  have hba:=hb _ (gE6 hlt2)
  have hsn:=cF cl (row.take j) row[j]
  rw [<- gE8 hlt2] at hsn
  have hol:=Sg cl (row.take j)
  generalize row[j]=a at *
  obtain ⟨e,t⟩:=a
  simp only at hat hba
  obtain ⟨tn,rfl⟩:∃ tn:Nat,t=(tn:Int):=⟨t.toNat,by omega⟩
  have htn:tn<cl.length:=by omega
  have gt:=Am (gE1 htn)
  have hdef:XN cl (e,(tn:Int))=if e ≠ 0 then some (e,cl[tn]) else none:=by unfold XN;simp only [Int.toNat_natCast];rw [gE2,gE1 htn];rfl
  have hol2:(oc++(0,ck) :: XO cl (row.take j)).length<=3000000:=by
   rw [List.length_append,List.length_cons];have:=List.length_take_le j row;omega
  have hnx:oc++(0,ck) :: XO cl (row.take (j+1))=(oc++(0,ck) :: XO cl (row.take j))++(XN cl (e,(tn:Int))).toList:=by rw [hsn];simp
  generalize oc++(0,ck) :: XO cl (row.take j)=o1 at *
  generalize cl[tn]=ct at *
  have hsl:(B.set fk o1).length=X.length:=by simp [hLl]
  have hg1:(B.set fk o1)[fk]?=some o1:=gEc (by omega)
  (refine Wu @d2 ?_;(repeat clear hK K);repeat refine kq fun K hK=>?_)
  refine WB ?_
  by_cases he:e=0
  ·have d3:(e != 0)=false:=by simp [he]
   rw [if_neg (by simp [he])] at hdef
   (refine Cn (an @hat (an @A2 (an @Ak @d3))) ?_;(repeat clear hK K);repeat refine kq fun K hK=>?_)
   refine WC ?_
   (refine Wt ?_;(repeat clear hK K);repeat refine kq fun K hK=>?_)
   refine WD ?_
   refine hK _ (j+1) (by omega) (by omega) ?_
   refine Le.trans (A9 [0,1] rfl rfl) ?_
   (try simp only [List.set_nil,List.take_nil,List.take_zero,List.map_append,go_sem])
   (try simp only [cg])
   rw [hnx,hdef]
   simp only [Option.toList,List.append_nil,dw]
   exact WE
  have d3:(e != 0)=true:=by simpa using he
  rw [if_pos he] at hdef
  (refine Cn (an @hat (an @A2 (an @Ak @d3))) ?_;(repeat clear hK K);repeat refine kq fun K hK=>?_)
  refine WB ?_
  (refine AJ [] (.m 0 0 0 (.m 1 0 0 (.m 2 0 0 (.m 3 0 0 (.m 4 0 0 (.m 5 1 15 (.m 6 0 0 (.m 7 1 14 (.m 8 0 0 (.m 9 0 0 (.m 10 1 14 (.m 11 0 0 (.m 12 1 14 (.m 13 0 0 (.a 14 (.a 15 (.m 16 0 0 (.a 17 .e)))))))))))))))))) (by kernel_rfl) (by kernel_rfl) (by intro c st h;simp [Ae,AF,VT] at h) ?_)
  (refine Ww (an @QQ (an (cf hg1) (an @hsl (an @hLl (an @A4 (an @hcl (an @gt (an @A2 @Ak)))))))) ?_;repeat clear hK K)
  (refine Wj rfl rfl ?_;intro K1 hK1;refine Bx rfl ?_;simp only [go_sem];(first | refine hK1 _ ?_ | refine AD (hK1 _ ?_));clear hK1 K1)
  (refine Ga rfl rfl rfl ?_;intro K1 hK1;refine CK rfl rfl rfl rfl (by first | rfl | simp only [CQ,List.getD_cons_zero,List.getD_cons_succ,hne,List.isEmpty_cons,Bool.not_false,Bool.true_and,Bool.and_true,Bool.and_self]) rfl ?_;simp only [go_sem,Cp,A2,Ak,BF,cf hg1];(first | refine hK1 _ ?_ | refine AD (hK1 _ ?_));clear hK1 K1)
  (refine Ww (an @QQ @hsl) ?_;repeat clear hK K)
  (refine Wk rfl rfl rfl rfl ?_;intro K1 hK1;refine AP rfl ?_;simp only [go_sem,QQ,List.length_set,CV,hsl];(first | refine hK1 _ ?_ | refine AD (hK1 _ ?_));clear hK1 K1)
  refine CL ⟨by simp,by simp,?_⟩
  (try simp only [Ae,AF])
  refine hK _ ?_
  clear hK K
  have hfB1:fk<(B.set fk o1).length:=by omega
  have hj6:((dx (B.set fk o1)).set fk (C.s 4 ((o1).length+1)))[fk]?=some (.s 4 ((o1).length+1)):=by rw [gEc (by rw [QQ];first | assumption | omega)]
  have hset6:((dx (B.set fk o1)).set fk (C.s 4 ((o1).length+1))).set fk (.o (2,106) (Ao (o1++[(e,ct)])))=dx ((B.set fk o1).set fk (o1++[(e,ct)])):=by rw [CV,ci]
  refine Au (AR (r:=⟨106,2,true,Ax (o1++[(e,ct)])⟩) (ri:=⟨104,1,true,(dx (B.set fk o1)).set fk (C.s 4 ((o1).length+1))⟩) (ts:=Ao (o1++[(e,ct)])) 1 fk 4 ((o1).length+1) (by decide) rfl hj6 rfl rfl (show 0<2 by omega) (by rw [Ap];simp) (Dl _)) ?_
  simp only [hset6,go_sem]
  refine Au (A9 [0,1] rfl rfl) ?_
  (try simp only [List.set_nil,List.take_nil,List.take_zero,List.map_append,go_sem])
  (try simp only [cg])
  (refine Wt ?_;(repeat clear hK K);repeat refine kq fun K hK=>?_)
  refine WD ?_
  refine hK _ (j+1) (by omega) (by omega) ?_
  rw [hnx,hdef]
  simp only [Option.toList,List.set_set,dw]
  exact WE
 have d1:decide ((k:Int)<(X.length:Int))=false:=by simpa using hlt
 have hke:k=X.length:=by omega
 rw [hke] at d1
 rw [hke]
 (refine Wu @d1 ?_;(repeat clear hK K);repeat refine kq fun K hK=>?_)
 refine WC ?_
 (refine Wx ?_;repeat clear hK K)
 (refine Wu (an @A3 (an @A4 @hDl)) ?_;(repeat clear hK K);repeat refine kq fun K hK=>?_)
 have e1:List.replicate X.length (C.o (1,3) [])=Bd (XT X.length (Xy (XG D) X 0)):=by
  have:Xy (XG D) X 0=[]:=rfl
  rw [this,cJ];simp [Bd,Ab]
 rw [e1]
 refine A8 (fun k:Nat=>{ tm:=[(0,.a (.c (.p 0 0))),(5,.a (.c (.s 1 X.length))),(10,.a (.c (.s 2 X.length))),(96,.a (.c (.t 1 (Ab D)))),(97,.i X.length),(98,.i k)],hp:=[.r (dw X D (Q.map Int.ofNat) dv),.r ⟨104,1,true,dx (XR (XG D) cl X X.length)⟩,.r ⟨22,1,true,Bd (XT X.length (Xy (XG D) X k))⟩],n:=190,pin:=1 }) (fun k=>k<=X.length) (fun k=>X.length - k) 0 ?_ ?_ ?_
 ·omega
 ·simp only [dw]
  exact WE
 clear hk hlt d1 hke
 rintro k hk K hK
 simp only [dw]
 by_cases hlt:k<X.length
 ·have d1:decide ((k:Int)<(X.length:Int))=true:=by simpa using hlt
  have hgX:=gE1 hlt
  have hgd:X.getD k []=X[k]:=by rw [gE2,hgX];rfl
  have hrl:=hr _ (gE6 hlt)
  have hb:=hbd _ (gE6 hlt)
  have hel:=ND (XG D) X k hk
  have hto:=Hi X k
  have hsu:Xy (XG D) X (k+1)=Xy (XG D) X k++Xx (XG D) k X[k]:=by rw [KM,hgd]
  obtain ⟨gDk0,hfk,_⟩:=BN hv hD hlt
  have gDk:=Am gDk0
  generalize X[k]=row at *
  generalize Xy (XG D) X k=E0 at *
  (refine Wu @d1 ?_;(repeat clear hK K);repeat refine kq fun K hK=>?_)
  refine WB ?_
  (refine Wu (an @A4 (an @hDl (an @gDk (an @A3 (an (Ag hgX) (an @A2 @Ak)))))) ?_;(repeat clear hK K);repeat refine kq fun K hK=>?_)
  refine A8 (fun j:Nat=>{ tm:=[(0,.a (.c (.p 0 0))),(5,.a (.c (.s 1 X.length))),(10,.a (.c (.s 2 X.length))),(12,.i (XG D k)),(96,.a (.c (.t 1 (Ab D)))),(97,.i X.length),(98,.i k),(110,.a (.c (.t 2 (Ao row)))),(111,.i row.length),(112,.i j)],hp:=[.r (dw X D (Q.map Int.ofNat) dv),.r ⟨104,1,true,dx (XR (XG D) cl X X.length)⟩,.r ⟨22,1,true,Bd (XT X.length (E0++Xx (XG D) k (row.take j)))⟩],n:=190,pin:=1 }) (fun j=>j<=row.length) (fun j=>row.length - j) 0 ?_ ?_ ?_
  ·omega
  ·simp only [List.take_zero,Xx,List.filterMap_nil,List.append_nil,dw]
   exact WE
  rintro j hj K hK
  simp only [dw]
  by_cases hlt2:j<row.length
  rotate_left
  ·have d2:decide ((j:Int)<(row.length:Int))=false:=by simpa using hlt2
   have hje:row.take j=row:=gE7 (by omega)
   rw [hje,<- hsu]
   (refine Wu @d2 ?_;(repeat clear hK K);repeat refine kq fun K hK=>?_)
   refine WC ?_
   (refine Wx ?_;repeat clear hK K)
   (refine Wt ?_;(repeat clear hK K);repeat refine kq fun K hK=>?_)
   refine WD ?_
   refine hK _ (k+1) (by omega) (by omega) ?_
   simp only [dw]
   exact WE
  have d2:decide ((j:Int)<(row.length:Int))=true:=by simpa using hlt2
  have hat:=AL hlt2
  have hba:=hb _ (gE6 hlt2)
  have hsn:=PZ (XG D) k (row.take j) row[j]
  rw [<- gE8 hlt2] at hsn
  have hrl2:=List.length_filterMap_le (Xw (XG D) k) (row.take j)
  have hrl3:(Xx (XG D) k (row.take j)).length<=j:=by have:=List.length_take_le j row;unfold Xx;omega
  generalize row[j]=a at *
  obtain ⟨e,t⟩:=a
  simp only at hat hba
  obtain ⟨tn,rfl⟩:∃ tn:Nat,t=(tn:Int):=⟨t.toNat,by omega⟩
  have htn:tn<X.length:=by omega
  obtain ⟨gDt0,hft,_⟩:=BN hv hD htn
  have gDt:=Am gDt0
  have hEl:(E0++Xx (XG D) k (row.take j)).length<=2000000:=by rw [List.length_append];omega
  have hdef:Xw (XG D) k (e,(tn:Int))=if e=0/\XG D k ≠ XG D tn then some (XG D k,XG D tn) else none:=rfl
  have hnx:E0++Xx (XG D) k (row.take (j+1))=(E0++Xx (XG D) k (row.take j))++(Xw (XG D) k (e,(tn:Int))).toList:=by rw [hsn,List.append_assoc]
  generalize E0++Xx (XG D) k (row.take j)=E at *
  have hbl:=cx E (XG D k)
  have hnl:=cw X.length E
  have gN:=DS (Si (E:=E) hfk)
  have hns:=cI (E:=E) (t:=XG D tn) hfk
  generalize hfk':XG D k=fk at *
  generalize hft':XG D tn=ft at *
  generalize XS E fk=oc at *
  (refine Wu @d2 ?_;(repeat clear hK K);repeat refine kq fun K hK=>?_)
  refine WB ?_
  (refine Cn (an @hat (an @A2 @Ak)) ?_;(repeat clear hK K);repeat refine kq fun K hK=>?_)
  (refine Ac 8 [(0,0),(1,0),(2,0),(3,1),(4,0),(5,1),(6,0),(7,1),(8,2)] (by kernel_rfl) (by kernel_rfl) (by intro c st h;simp [Ae,AF,VT] at h) ?_)
  (refine Wq (an @A4 (an @hDl @gDt)) ?_;repeat clear hK K)
  by_cases hq:e=0/\fk ≠ ft
  rotate_left
  ·rw [if_neg hq] at hdef
   rw [hdef] at hnx
   have hnx:E0++Xx (XG D) k (row.take (j+1))=E:=by rw [hnx];simp
   by_cases he:e=0
   rotate_left
   ·have d3:(e == 0)=false:=by simpa using he
    (refine Wu @d3 ?_;(repeat clear hK K);repeat refine kq fun K hK=>?_)
    refine WC ?_
    (refine Wt ?_;(repeat clear hK K);repeat refine kq fun K hK=>?_)
    refine WD ?_
    refine hK _ (j+1) (by omega) (by omega) ?_
    refine Le.trans (A9 [0,1,2] rfl rfl) ?_
    (try simp only [List.set_nil,List.take_nil,List.take_zero,List.map_append,go_sem])
    (try simp only [cg,D9])
    rw [hnx]
    simp only [dw]
    exact WE
   have d3:(e == 0)=true:=by simpa using he
   have hff:fk=ft:=Decidable.not_not.1 fun h=>hq ⟨he,h⟩
   have d4:((ft:Int) != (fk:Int))=false:=by simp [hff]
   (refine Wu (an @d3 @d4) ?_;(repeat clear hK K);repeat refine kq fun K hK=>?_)
   refine WC ?_
   (refine Wt ?_;(repeat clear hK K);repeat refine kq fun K hK=>?_)
   refine WD ?_
   refine hK _ (j+1) (by omega) (by omega) ?_
   refine Le.trans (A9 [0,1,2] rfl rfl) ?_
   (try simp only [List.set_nil,List.take_nil,List.take_zero,List.map_append,go_sem])
   (try simp only [cg,D9])
   rw [hnx]
   simp only [dw]
   exact WE
  obtain ⟨he,hff⟩:=hq
  have d3:(e == 0)=true:=by simpa using he
  have d4:((ft:Int) != (fk:Int))=true:=by simp;omega
  rw [if_pos ⟨he,hff⟩] at hdef
  rw [hdef] at hnx
  have hnx:E0++Xx (XG D) k (row.take (j+1))=E++[(fk,ft)]:=hnx
  (refine Wu (an @d3 @d4) ?_;(repeat clear hK K);repeat refine kq fun K hK=>?_)
  refine WB ?_
  (refine Wu (an @BB (an @gN (an @hnl (an @CV (an @List.length_set.{0} (an @List.set_cons_zero.{0} (an @List.set_cons_succ.{0} (an @List.take_succ_cons.{0} (an @List.take_zero.{0} (an @List.drop_zero.{0} (an @List.length_take.{0} (an @List.length_drop.{0} (an @List.length_append.{0} (an @A4 (an @Az (an @AN (an @Bm (an @A5 (an @AU (an @AE (an @B1 (an @AG @AM)))))))))))))))))))))) ?_;(repeat clear hK K);repeat refine kq fun K hK=>?_)
  have hj6:((Bd (XT X.length E)).set fk (C.s 5 (oc.length+1)))[fk]?=some (.s 5 (oc.length+1)):=by rw [gEc (by rw [BB];omega)]
  have hset6:((Bd (XT X.length E)).set fk (C.s 5 (oc.length+1))).set fk (.o (1,3) (Ab (oc++[(ft:Int)])))=Bd (XT X.length (E++[(fk,ft)])):=by rw [CV,F3,hns]
  refine WD ?_
  refine hK _ (j+1) (by omega) (by omega) ?_
  refine Le.trans (AR (r:=⟨3,1,true,A7 (oc++[(ft:Int)])⟩) (ri:=⟨22,1,true,(Bd (XT X.length E)).set fk (C.s 5 (oc.length+1))⟩) (ts:=Ab (oc++[(ft:Int)])) 2 fk 5 (oc.length+1) (by decide) rfl hj6 rfl rfl (show 0<1 by omega) (by rw [A5];simp) (EM _)) ?_
  simp only [hset6,go_sem]
  refine Le.trans (A9 [0,1,2] rfl rfl) ?_
  (try simp only [List.set_nil,List.take_nil,List.take_zero,List.map_append,go_sem])
  (try simp only [cg,D9])
  rw [hnx]
  simp only [dw]
  exact WE
 have d1:decide ((k:Int)<(X.length:Int))=false:=by simpa using hlt
 have hke:k=X.length:=by omega
 have hel:=ND (XG D) X X.length (Nat.le_refl _)
 rw [List.take_length] at hel
 have hP0:=P3.start (XG D) cl X Q
 rw [hke] at d1
 rw [hke]
 obtain ⟨E,hEe⟩:∃ E,E=Xy (XG D) X X.length:=⟨_,rfl⟩
 rw [<- hEe] at hel hQ ⊢
 have hnl:=cw X.length E
 (refine Wu @d1 ?_;(repeat clear hK K);repeat refine kq fun K hK=>?_)
 refine WC ?_
 (refine Wx ?_;repeat clear hK K)
 refine Au (Cm 2 rfl) ?_
 simp only [F8,go_sem]
 have htk:(Co (XT X.length E)).take X.length=Co (XT X.length E):=gE7 (by rw [BL];omega)
 have hif:(if X.length<=(Co (XT X.length E)).length then C.t 1 (Co (XT X.length E)) else C.u)=C.t 1 (Co (XT X.length E)):=if_pos (by rw [BL];omega)
 (refine Au (Bg (r:=⟨22,1,true,CE (XT X.length E)⟩) 2 (Co (XT X.length E)) rfl (PQ _) (show 0<(1:Nat) by omega)) ?_;simp only [ST.frz,A0.frz,AV.frz,C.frz,Nat.le_refl,List.set_cons_zero,List.set_cons_succ,go_sem,htk,hif])
 have hQm:(Q.map Int.ofNat).length=Q.length:=by simp
 (refine Wu (an @A4 @hQm) ?_;(repeat clear hK K);repeat refine kq fun K hK=>?_)
 refine Au (A9 [0,1] rfl rfl) ?_
 (try simp only [List.set_nil,List.take_nil,List.take_zero,List.map_append,go_sem])
 (try simp only [cg])
 have hQn:Q.length<=X.length:=KA X.length Q hQ.1 (fun u hu=>((hQ.2.1 u).1 hu).1)
 refine A8 (fun x:Nat × List (List Ar)=>{ tm:=[(5,.a (.c (.s 1 X.length))),(10,.a (.c (.t 1 (Co (XT X.length E))))),(147,.a (.c (.t 1 (Ab (Q.map Int.ofNat))))),(148,.i Q.length),(149,.i x.1)],hp:=[.r (dw X D (Q.map Int.ofNat) dv),.r ⟨104,1,true,dx x.2⟩],n:=190,pin:=1 }) (fun x=>x.1<=Q.length/\P3 (XG D) cl X Q x.1 x.2) (fun x=>Q.length - x.1) (0,XR (XG D) cl X X.length) ?_ ?_ ?_
 ·exact ⟨Nat.zero_le _,hP0⟩
 ·simp only [dw]
  exact WE
 clear hk hlt d1 hke hP0
 rintro ⟨i,O⟩ ⟨hi,hP⟩ K hK
 simp only at hi hP
 simp only [dw]
 have hOl:=hP.len
 by_cases hlt:i<Q.length
 rotate_left
 ·have d1:decide ((i:Int)<(Q.length:Int))=false:=by simpa using hlt
  have hie:i=Q.length:=by omega
  rw [hie] at hP
  (refine Wu @d1 ?_;(repeat clear hK K);repeat refine kq fun K hK=>?_)
  refine WC ?_
  (refine Wx ?_;repeat clear hK K)
  refine Au (Cm 1 rfl) ?_
  simp only [dc,go_sem]
  (refine Wt ?_;(repeat clear hK K);repeat refine kq fun K hK=>?_)
  refine WG [0,1] Tryz.results85 @Bs ?_
  exact ⟨O,hP,rfl⟩
 have d1:decide ((i:Int)<(Q.length:Int))=true:=by simpa using hlt
 have gQ:(Ab (Q.map Int.ofNat))[i]?=some (.v (.int .i64 ((Q[i]:Nat):Int))):=Am (by rw [List.getElem?_map,gE1 hlt];rfl)
 have hQi:=gE1 hlt
 have hst:=P3.step hv hD (by rw [<- hEe];exact hQ) hP hQi
 rw [<- hEe] at hst
 have hcX:=((hQ.2.1 _).1 (gE6 hlt)).1
 generalize hcq:Q[i]=c at *
 have hE2:∀ x∈XS E c,∃ t:Nat,x=(t:Int)/\t<X.length/\t ≠ c:=fun x hx=>by
  obtain ⟨t,e,h1⟩:=NO.1 hx
  rw [hEe] at h1
  refine ⟨t,e,(Q5 hv hD _ h1).2.1,?_⟩
  obtain ⟨s,_,a,_,_,h5,h6⟩:=Fb.1 h1
  rintro rfl
  injection h6 with h6 h7
  exact h5 (h6.symm.trans h7)
 have hNg:(XT X.length E).getD c []=XS E c:=by rw [gE2,Si hcX];rfl
 have gN:=DA (Si (E:=E) hcX)
 have hxl:=cx E c
 unfold XV at hst
 rw [hNg] at hst
 generalize XS E c=nx at *
 have hBd:=hP.sz
 have hOc:O[c]?=some (O.getD c []):=by rw [gE2,gE1 (by omega)];rfl
 have hocl:=hBd c
 generalize hoc:O.getD c []=oc at *
 (refine Wu @d1 ?_;(repeat clear hK K);repeat refine kq fun K hK=>?_)
 refine WB ?_
 (refine Wu (an @A4 (an @hQm (an @gQ (an @BL (an @hnl @gN))))) ?_;(repeat clear hK K);repeat refine kq fun K hK=>?_)
 refine A8 (fun m:Nat=>{ tm:=[(5,.a (.c (.s 1 X.length))),(10,.a (.c (.t 1 (Co (XT X.length E))))),(17,.i c),(147,.a (.c (.t 1 (Ab (Q.map Int.ofNat))))),(148,.i Q.length),(149,.i i),(156,.a (.c (.t 1 (Ab nx)))),(157,.i nx.length),(158,.i m)],hp:=[.r (dw X D (Q.map Int.ofNat) dv),.r ⟨104,1,true,dx (O.set c (oc++XU O (nx.take m)))⟩],n:=190,pin:=1 }) (fun m=>m<=nx.length) (fun m=>nx.length - m) 0 ?_ ?_ ?_
 ·omega
 ·have e2:O.set c oc=O:=by
   refine List.ext_getElem (by simp) fun q h1 h2=>?_
   rw [List.getElem_set]
   split
   ·rename_i e;subst e;rw [gE1 h2] at hOc;exact (Option.some.inj hOc).symm
   rfl
  simp only [List.take_zero,XU,List.flatMap_nil,List.append_nil,e2,dw]
  exact WE
 rintro m hm K hK
 simp only [dw]
 have hpl:=cR hBd (nx.take m)
 have hml:(nx.take m).length<=1000:=by rw [List.length_take];omega
 have hpl2:=Nat.le_trans hpl (Nat.mul_le_mul hml (show X.length+Bw X<=1100 by omega))
 by_cases hlm:m<nx.length
 ·have d2:decide ((m:Int)<(nx.length:Int))=true:=by simpa using hlm
  have gx:=Am (gE1 hlm)
  obtain ⟨to,hto,htl,htn⟩:=hE2 _ (gE6 hlm)
  have hsn:=cK O (nx.take m) nx[m]
  rw [<- gE8 hlm,hto] at hsn
  rw [hto] at gx
  simp only [Int.toNat_natCast] at hsn
  have hOt:O[to]?=some (O.getD to []):=by rw [gE2,gE1 (by omega)];rfl
  have hotl:=hBd to
  generalize O.getD to []=ot at *
  have hol:(oc++XU O (nx.take m)).length<=1200000:=by rw [List.length_append];omega
  have hnx:oc++XU O (nx.take (m+1))=(oc++XU O (nx.take m))++ot:=by rw [hsn,List.append_assoc]
  generalize oc++XU O (nx.take m)=o1 at *
  have hsl:(O.set c o1).length=X.length:=by simp [hOl]
  have hg1:(O.set c o1)[c]?=some o1:=gEc (by omega)
  have hg2:(O.set c o1)[to]?=some ot:=by rw [gE5 (Ne.symm htn)];exact hOt
  (refine Wu @d2 ?_;(repeat clear hK K);repeat refine kq fun K hK=>?_)
  refine WB ?_
  (refine Wu (an @A4 @gx) ?_;(repeat clear hK K);repeat refine kq fun K hK=>?_)
  (refine AJ [] (.m 0 0 0 (.m 1 0 0 (.m 2 0 0 (.m 3 0 0 (.m 4 0 0 (.m 5 1 10 (.m 6 0 0 (.m 7 0 0 (.m 8 0 0 (.m 9 1 10 (.a 10 (.m 11 0 0 (.a 12 .e))))))))))))) (by kernel_rfl) (by kernel_rfl) (by intro c st h;simp [Ae,AF,VT] at h) ?_)
  (refine Ww (an @QQ (an (cf hg1) (an (cf hg2) (an @hsl (an @A2 @Ak))))) ?_;repeat clear hK K)
  (refine Ga rfl rfl rfl ?_;intro K1 hK1;refine CK rfl rfl rfl rfl (by first | rfl | simp only [CQ,List.getD_cons_zero,List.getD_cons_succ,hne,List.isEmpty_cons,Bool.not_false,Bool.true_and,Bool.and_true,Bool.and_self]) rfl ?_;simp only [go_sem,Cp,A2,Ak,D8,cf hg1,cf hg2];(first | refine hK1 _ ?_ | refine AD (hK1 _ ?_));clear hK1 K1)
  (refine Ww (an @QQ @hsl) ?_;repeat clear hK K)
  (refine Wk rfl rfl rfl rfl ?_;intro K1 hK1;refine AP rfl ?_;simp only [go_sem,QQ,List.length_set,CV,hsl];(first | refine hK1 _ ?_ | refine AD (hK1 _ ?_));clear hK1 K1)
  refine CL ⟨by simp,by simp,?_⟩
  (try simp only [Ae,AF])
  refine hK _ ?_
  clear hK K
  have hj6:((dx (O.set c o1)).set c (C.s 2 (o1.length+ot.length)))[c]?=some (.s 2 (o1.length+ot.length)):=by rw [gEc (by rw [QQ];omega)]
  have hset6:((dx (O.set c o1)).set c (C.s 2 (o1.length+ot.length))).set c (.o (2,106) (Ao (o1++ot)))=dx (O.set c (o1++ot)):=by rw [CV,ci,List.set_set]
  refine Au (AR (r:=⟨106,2,true,Ax (o1++ot)⟩) (ri:=⟨104,1,true,(dx (O.set c o1)).set c (C.s 2 (o1.length+ot.length))⟩) (ts:=Ao (o1++ot)) 1 c 2 (o1.length+ot.length) (by decide) rfl hj6 rfl rfl (show 0<2 by omega) (by rw [Ap,List.length_append]) (Dl _)) ?_
  simp only [hset6,go_sem]
  (refine Wt ?_;(repeat clear hK K);repeat refine kq fun K hK=>?_)
  refine WD ?_
  refine hK _ (m+1) (by omega) (by omega) ?_
  refine Le.trans (A9 [0,1] rfl rfl) ?_
  (try simp only [List.set_nil,List.take_nil,List.take_zero,List.map_append,go_sem])
  (try simp only [cg])
  rw [hnx]
  simp only [dw]
  exact WE
 have d2:decide ((m:Int)<(nx.length:Int))=false:=by simpa using hlm
 have hmx:nx.take m=nx:=gE7 (by omega)
 rw [hmx] at hpl2 ⊢
 (refine Wu @d2 ?_;(repeat clear hK K);repeat refine kq fun K hK=>?_)
 refine WC ?_
 (refine Wx ?_;repeat clear hK K)
 have hLl:(oc++XU O nx).length<=1200000:=by rw [List.length_append];omega
 generalize oc++XU O nx=L at *
 have hgc:(dx (O.set c L))[c]?=some (.o (2,106) (Ao L)):=cf (gEc (by omega))
 refine Au (cO 1 c L.length rfl hgc (by rw [A2]) (show 0<2 by omega)) ?_
 have hgs:∀ n,((dx (O.set c L)).set c (C.s 2 n))[c]?=some (.s 2 n):=fun n=>by rw [gEc (by rw [QQ,List.length_set];omega)]
 simp only [Cp,go_sem]
 have hsl:(O.set c L).length=X.length:=by simp [hOl]
 (refine Wu (an @QQ (an @List.length_set.{0} (an @hOl @hgs))) ?_;(repeat clear hK K);repeat refine kq fun K hK=>?_)
 (refine Ai rfl ?_;intro K1 hK1;refine AH (ids:=[]) [2] (cN 116 (by kernel_rfl) cT L (by omega)) rfl rfl (by simp only [go_sem]) (by first | assumption | kernel_rfl) rfl rfl (by (simp only [List.map_append,List.append_nil,go_sem]) <;> rfl) (by (simp only [VS,GS,go_sem]) <;> rfl) ?_ ?_)
 ·rintro _ _ ⟨rfl,L',_,_,rfl⟩;rfl
 rintro _ _ ⟨rfl,L',hperm,hsort,rfl⟩
 (simp only [As,Bl,ch,List.append_nil,List.nil_append,List.length_map,go_sem];refine hK1 _ ?_;clear hK1 K1)
 have hL2:=hperm.length_eq
 have hq:LJ L'=Cq L:=by rw [Nd];exact N1 hperm hsort
 (refine Wu (an @QQ (an @List.length_set.{0} (an @hOl @hgs))) ?_;(repeat clear hK K);repeat refine kq fun K hK=>?_)
 rw [<- hL2]
 (refine Ai rfl ?_;intro K1 hK1;refine AH (ids:=[]) [2] (cj L' (by omega)) rfl rfl (by simp only [go_sem]) (by first | assumption | kernel_rfl) rfl rfl (by (simp only [List.map_append,List.append_nil,go_sem]) <;> rfl) (by (simp only [VS,GS,go_sem]) <;> rfl) ?_ ?_)
 ·rintro _ _ ⟨rfl,rest,us,_,_,rfl⟩;rfl
 rintro _ _ ⟨rfl,rest,us,hrest,hr0,rfl⟩
 (simp only [As,Bl,ch,List.append_nil,List.nil_append,List.length_map,go_sem];refine hK1 _ ?_;clear hK1 K1)
 obtain ⟨q,hqd⟩:∃ q,q=Cq L:=⟨_,rfl⟩
 rw [<- hqd] at hq hst
 have hql:q.length<=1200000:=by rw [hqd];exact Nat.le_trans (Gj L) (by omega)
 rw [hq]
 (refine Wu (an @QQ (an @List.length_set.{0} (an @hOl @List.set_set.{0}))) ?_;(repeat clear hK K);repeat refine kq fun K hK=>?_)
 have hj6:((dx (O.set c L)).set c (C.s 2 q.length))[c]?=some (.s 2 q.length):=hgs _
 have hset6:((dx (O.set c L)).set c (C.s 2 q.length)).set c (.o (2,106) (Ao q))=dx (O.set c q):=by rw [CV,ci,List.set_set]
 refine WD ?_
 refine hK _ (i+1,O.set c q) ⟨by simp only;omega,hst⟩ (by simp only;omega) ?_
 refine Le.trans (S0 2 (q.length*2) rfl ?_) ?_
 ·intro _ h
  rw [cn _ _ _ (ch _ _)] at h
  have hq0:q=[]:=by
   have:=congrArg List.length h
   rw [Ap] at this
   exact List.length_eq_zero_iff.1 (by simp at this;omega)
  have hL0:L'=[]:=by
   cases L' with
   | nil=>rfl
   | cons x xs=>
    have:LJ (x :: xs)=[]:=by rw [hq,hq0]
    simp [LJ] at this
  rw [hr0 hL0,hq0];rfl
 simp only [cn _ _ _ (ch _ _),go_sem]
 refine Le.trans (AR (r:=⟨106,2,true,Ax q⟩) (ri:=⟨104,1,true,(dx (O.set c L)).set c (C.s 2 q.length)⟩) (ts:=Ao q) 1 c 2 q.length (by decide) rfl hj6 rfl rfl (show 0<2 by omega) (by rw [Ap]) (Dl _)) ?_
 simp only [hset6,go_sem]
 refine Le.trans (A9 [0,1] rfl rfl) ?_
 (try simp only [List.set_nil,List.take_nil,List.take_zero,List.map_append,go_sem])
 (try simp only [cg])
 simp only [dw]
 exact WE
set_option maxHeartbeats 8000000 in
theorem dg (X:List (List Ar)) (D:List Int) (Q:List Nat) (dv:List Bool) (hv:Bv X=true) (hn:X.length<=100) (ht:Bw X<=1000) (hr:∀ r∈X,r.length<=1000000) (hD:CpOk X D) (hQ:Hr (Xy (XG D) X X.length) X.length (XG D) Q) (hB:DvL X dv):FC Tryz.prog 48 [.a (.c (.p 0 0))] [.r (dw X D (Q.map Int.ofNat) dv)] (fun r o=>∃ c,DlC X c/\Nrm X.length c/\r=As c/\o=[.r (dw X D (Q.map Int.ofNat) dv)]):=by
 refine A6 Tryz.func48 rfl (by rw [Tryz.ntmps48];simp) ?_
 rw [Tryz.ntmps48]
 have hlo:BE X=true:=gEg (gE4 hv).1
 have h1:1<=X.length:=(gE4 hlo).1
 have hDl:=hD.1
 have hBl:=hB.1
 simp only [Bf,dw]
 (refine Wu (an @A3 (an @BD @hBl)) ?_;(repeat clear hK K);repeat refine kq fun K hK=>?_)
 have e0:List.replicate X.length (C.v (.string { data:=#[] }))=ZG (Y3 Yh Yi dv X.length 0):=by rw [Qd];simp [ZG,Yi]
 rw [e0]
 refine A8 (fun k:Nat=>{ tm:=[(0,.a (.c (.p 0 0))),(3,.a (.c (.s 1 X.length))),(25,.a (.c (.t 1 (X6 dv)))),(26,.i X.length),(27,.i k)],hp:=[.r (dw X D (Q.map Int.ofNat) dv),.r ⟨9,1,true,ZG (Y3 Yh Yi dv X.length k)⟩],n:=93,pin:=1 }) (fun k=>k<=X.length) (fun k=>X.length - k) 0 ?_ ?_ ?_
 ·omega
 ·simp only [dw]
  exact WE
 rintro k hk K hK
 simp only [dw]
 by_cases hlt:k<X.length
 ·have d1:decide ((k:Int)<(X.length:Int))=true:=by simpa using hlt
  have gB:(X6 dv)[k]?=some (.v (.bool (dv.getD k false))):=F7 (by rw [gE2,gE1 (by omega)];rfl)
  have hkt:=Qe (kd:=Yh) (ke:=Yi) (B:=dv) (n:=X.length) (k:=k)
  have hkf:=NV (kd:=Yh) (ke:=Yi) (B:=dv) (n:=X.length) (k:=k)
  have hkl:=Hx Yh Yi dv X.length k
  generalize dv.getD k false=b at *
  (refine Wu @d1 ?_;(repeat clear hK K);repeat refine kq fun K hK=>?_)
  refine WB ?_
  (refine Wu (an @BD (an @hBl @gB)) ?_;(repeat clear hK K);repeat refine kq fun K hK=>?_)
  cases b with
  | true=>
   have hkt:=hkt rfl
   refine WB ?_
   have hks:(ZG (Y3 Yh Yi dv X.length k)).set k (C.v (Value.string { data:=#[100,105,118,101,114,103,101,110,116] }))=ZG (Y3 Yh Yi dv X.length (k+1)):=by rw [<- hkt];exact Jz _ _ _
   (refine Cn (an @Gt (an @hkl @hks)) ?_;(repeat clear hK K);repeat refine kq fun K hK=>?_)
   refine WD ?_
   refine hK _ (k+1) (by omega) (by omega) ?_
   simp only [dw]
   exact WE
  | false=>
   have hkf:=hkf rfl
   refine WC ?_
   (refine Wt ?_;(repeat clear hK K);repeat refine kq fun K hK=>?_)
   refine WD ?_
   refine hK _ (k+1) (by omega) (by omega) ?_
   rw [hkf]
   simp only [dw]
   exact WE
 have d1:decide ((k:Int)<(X.length:Int))=false:=by simpa using hlt
 have hke:k=X.length:=by omega
 rw [hke] at d1
 rw [hke]
 have hko:=Uh (kd:=Yh) (ke:=Yi) (by kernel_rfl) (by kernel_rfl) (by kernel_rfl) (by kernel_rfl) dv X.length
 have hkl:=Hx Yh Yi dv X.length X.length
 have hpf:=cA (Y3 Yh Yi dv X.length X.length) (fun s=>dv.getD s false) hko (by omega)
 obtain ⟨hnm,_⟩:=U5 (B:=dv) X.length h1
 have hN0:=NC dv h1
 have hc0:F9 X.length (Xv dv X.length)=(Xh (fun s=>dv.getD s false) X.length).2:=by rw [<- hnm,NA]
 have hc1:1<=(Xh (fun s=>dv.getD s false) X.length).2:=by
  have:=(Cx (fun s=>dv.getD s false) X.length).rng 0 (by omega)
  omega
 rw [hkl,hnm,<- hc0] at hpf
 rw [<- hc0] at hc1
 clear hnm hc0
 generalize Y3 Yh Yi dv X.length X.length=ky0 at *
 generalize hc00:Xv dv X.length=c0 at *
 have hN0l:=hN0.len
 (refine Wu @d1 ?_;(repeat clear hK K);repeat refine kq fun K hK=>?_)
 refine WC ?_
 (refine Wx ?_;repeat clear hK K)
 (refine Wt ?_;(repeat clear hK K);repeat refine kq fun K hK=>?_)
 (refine Ai rfl ?_;intro K1 hK1;refine AH (ids:=[]) [1] (hpf) rfl rfl (by simp only [go_sem]) (by first | assumption | kernel_rfl) rfl rfl (by (simp only [List.map_append,List.append_nil,go_sem]) <;> rfl) (by (simp only [VS,Fd,go_sem]) <;> rfl) ?_ ?_)
 ·rintro _ _ ⟨rfl,rfl⟩;rfl
 rintro _ _ ⟨rfl,rfl⟩
 simp only [AA]
 (simp only [As,Bl,BQ,Uq,List.append_nil,List.nil_append,List.length_map,go_sem];refine hK1 _ ?_;clear hK1 K1)
 (refine Wt ?_;(repeat clear hK K);repeat refine kq fun K hK=>?_)
 have hSb:=YI hv hn
 have hSl:=hSb.1
 have hf0:(if X.length<=(Ab c0).length then C.t 1 ((Ab c0).take X.length) else C.u)=C.t 1 (Ab c0):=by rw [if_pos (by rw [A4];omega),gE7 (by rw [A4];omega)]
 (refine Au (Bg (r:=⟨3,1,true,A7 c0⟩) 2 (Ab c0) rfl (EM _) (show 0<(1:Nat) by omega)) ?_;simp only [ST.frz,A0.frz,AV.frz,C.frz,Nat.le_refl,List.set_cons_zero,List.set_cons_succ,go_sem,hf0])
 refine A8 (fun x:Nat × Nat × List Int × List Value=>{ tm:=[(0,.a (.c (.p 0 0))),(3,.a (.c (.s 1 X.length))),(6,.a (.c (.t 1 (Ab x.2.2.1)))),(7,.i (F9 X.length x.2.2.1)),(8,.i x.2.1)],hp:=[.r (dw X D (Q.map Int.ofNat) dv),.r ⟨9,1,true,ZG x.2.2.2⟩],n:=93,pin:=1 }) (fun x=>x.2.2.1=Xl (Tt X) c0 x.1/\Nrm X.length x.2.2.1/\x.2.2.2.length=X.length/\x.2.1<=F9 X.length x.2.2.1/\(x.2.1=F9 X.length x.2.2.1->Xk (Tt X) x.2.2.1=x.2.2.1)) (fun x=>X.length+1 - x.2.1) (0,0,c0,ky0) ?_ ?_ ?_
 ·exact ⟨rfl,hN0,hkl,Nat.zero_le _,fun h=>by simp only at h;omega⟩
 ·refine Le.trans (A9 [0,1] rfl rfl) ?_
  (try simp only [List.set_nil,List.take_nil,List.take_zero,List.map_append,go_sem])
  (try simp only [Fd])
  simp only [dw]
  exact WE
 clear hk hlt d1 hke hpf hko
 rintro ⟨j,bf,nw,ky⟩ ⟨hit,hN,hkyl,hbf,hfx⟩ K hK
 simp only at hit hN hkyl hbf hfx
 simp only [dw]
 have hcn:=KK X.length nw
 have hNl:=hN.len
 by_cases hlt:bf<F9 X.length nw
 rotate_left
 ·have d1:decide ((bf:Int)<((F9 X.length nw:Nat):Int))=false:=by simpa using hlt
  have hfx2:=hfx (by omega)
  (refine Wu @d1 ?_;(repeat clear hK K);repeat refine kq fun K hK=>?_)
  refine WC ?_
  (refine Wx ?_;repeat clear hK K)
  (refine Wt ?_;(repeat clear hK K);repeat refine kq fun K hK=>?_)
  ((try refine Av ?_);(try simp only [Ae,AF]);refine B6 (A9 [0] rfl rfl) ?_;(try simp only [List.set_nil,List.take_nil,List.take_zero,List.map_append,go_sem]);((try refine Av ?_);(try refine Aa ?_);(try simp only [Ae,AF]);refine Bj (by first | exact .inl rfl | exact .inr rfl) rfl ?_;simp only [VU,Dy,Du,DL,Tryz.results48,go_sem,true_and,and_true,As]))
  exact ⟨nw,⟨dv,hB,j,by rw [hc00];exact hit,hfx2⟩,hN,rfl⟩
 have d1:decide ((bf:Int)<((F9 X.length nw:Nat):Int))=true:=by simpa using hlt
 have hnn:=NB (Tt X) nw
 have hnl:=U4 (S:=Tt X) (by rw [hSl];exact hN)
 rw [hSl] at hnn hnl
 have hcn2:=KK X.length (Xk (Tt X) nw)
 have hnc:F9 X.length (Xk (Tt X) nw)=(Xh (Xj (Tt X) nw) X.length).2:=by
  have:=NA (Xj (Tt X) nw) X.length
  unfold Xk;rw [hSl];exact this
 have hnc1:(Xh (Xj (Tt X) nw) X.length).1=Xk (Tt X) nw:=by unfold Xk;rw [hSl]
 (refine Wu @d1 ?_;(repeat clear hK K);repeat refine kq fun K hK=>?_)
 refine WB ?_
 (refine Wt ?_;(repeat clear hK K);repeat refine kq fun K hK=>?_)
 (refine Ai rfl ?_;intro K1 hK1;refine AH (ids:=[]) [0] (de X D nw Q dv hv hn ht hr hD hQ hNl) rfl rfl (by simp only [go_sem]) (by first | assumption | kernel_rfl) rfl rfl (by (simp only [List.map_append,List.append_nil,go_sem]) <;> rfl) (by (simp only [VS,dw,go_sem]) <;> rfl) ?_ ?_)
 ·rintro _ _ ⟨O,_,rfl,rfl⟩;rfl
 rintro _ _ ⟨O,hP,rfl,rfl⟩
 simp only [dw]
 (simp only [As,Bl,C6,List.append_nil,List.nil_append,List.length_map,go_sem];refine hK1 _ ?_;clear hK1 K1)
 have hOl:=hP.len
 have hfo:(if X.length<=(Ah O).length then C.t 1 ((Ah O).take X.length) else C.u)=C.t 1 (Ah O):=by rw [if_pos (by rw [A3];omega),gE7 (by rw [A3];omega)]
 (refine Wu (an @A4 @hDl) ?_;(repeat clear hK K);repeat refine kq fun K hK=>?_)
 (refine Au (Bg (r:=⟨104,1,true,AO O⟩) 2 (Ah O) rfl (CZ _) (show 0<(1:Nat) by omega)) ?_;simp only [ST.frz,A0.frz,AV.frz,C.frz,Nat.le_refl,List.set_cons_zero,List.set_cons_succ,go_sem,hfo])
 refine Au (A9 [0,1] rfl rfl) ?_
 (try simp only [List.set_nil,List.take_nil,List.take_zero,List.map_append,go_sem])
 (try simp only [Fd])
 have hnkl:=cB O D nw X.length
 have hkyok:=d9 hv hD hQ hN hn hP
 have hkg:=fun s (hs:s<X.length)=>co (O:=O) (D:=D) (nw:=nw) hs
 have hoz:=hP.sz
 generalize hnk:dq O D nw X.length=nk at *
 refine A8 (fun k:Nat=>{ tm:=[(0,.a (.c (.p 0 0))),(3,.a (.c (.s 1 X.length))),(6,.a (.c (.t 1 (Ab nw)))),(8,.i (F9 X.length nw)),(9,.a (.c (.t 1 (Ah O)))),(52,.a (.c (.t 1 (Ab D)))),(53,.i X.length),(54,.i k)],hp:=[.r (dw X D (Q.map Int.ofNat) dv),.r ⟨9,1,true,ZG (dt nk ky k)⟩],n:=93,pin:=1 }) (fun k=>k<=X.length) (fun k=>X.length - k) 0 ?_ ?_ ?_
 ·omega
 ·simp only [dt,List.take_zero,List.drop_zero,List.nil_append,dw]
  exact WE
 rintro k hk K hK
 simp only [dw]
 by_cases hlk:k<X.length
 rotate_left
 ·have d2:decide ((k:Int)<(X.length:Int))=false:=by simpa using hlk
  have hke:dt nk ky k=nk:=by unfold dt;rw [gE7 (by omega),List.drop_eq_nil_of_le (by omega),List.append_nil]
  have hpf:=cA nk (Xj (Tt X) nw) hkyok (by omega)
  rw [hnkl,hnc1,<- hnc] at hpf
  rw [hke]
  (refine Wu @d2 ?_;(repeat clear hK K);repeat refine kq fun K hK=>?_)
  refine WC ?_
  (refine Wx ?_;repeat clear hK K)
  (refine Wt ?_;(repeat clear hK K);repeat refine kq fun K hK=>?_)
  (refine Ai rfl ?_;intro K1 hK1;refine AH (ids:=[]) [1] (hpf) rfl rfl (by simp only [go_sem]) (by first | assumption | kernel_rfl) rfl rfl (by (simp only [List.map_append,List.append_nil,go_sem]) <;> rfl) (by (simp only [VS,Fd,go_sem]) <;> rfl) ?_ ?_)
  ·rintro _ _ ⟨rfl,rfl⟩;rfl
  rintro _ _ ⟨rfl,rfl⟩
  simp only [AA]
  (simp only [As,Bl,BQ,Uq,List.append_nil,List.nil_append,List.length_map,go_sem];refine hK1 _ ?_;clear hK1 K1)
  (refine Wt ?_;(repeat clear hK K);repeat refine kq fun K hK=>?_)
  refine WD ?_
  refine hK _ (j+1,F9 X.length nw,Xk (Tt X) nw,nk) ⟨?_,hnn,hnkl,?_,fun h=>?_⟩ (by simp only;omega) ?_
  ·simp only
   rw [show Xl (Tt X) c0 (j+1)=Xk (Tt X) (Xl (Tt X) c0 j) from rfl,<- hit]
  ·simp only
   by_cases hne:Xk (Tt X) nw=nw
   ·rw [hne];exact Nat.le_refl _
   exact Nat.le_of_lt (hnl hne)
  ·simp only at h ⊢
   by_cases hne:Xk (Tt X) nw=nw
   ·rw [hne,hne]
   have:=hnl hne;omega
  simp only
  have hw2l:=hnn.len
  generalize hw2:Xk (Tt X) nw=w2 at *
  have hf0:(if X.length<=(Ab w2).length then C.t 1 ((Ab w2).take X.length) else C.u)=C.t 1 (Ab w2):=by rw [if_pos (by rw [A4];omega),gE7 (by rw [A4];omega)]
  (refine SO (Bg (r:=⟨3,1,true,A7 w2⟩) 2 (Ab w2) rfl (EM _) (show 0<(1:Nat) by omega)) ?_;simp only [ST.frz,A0.frz,AV.frz,C.frz,Nat.le_refl,List.set_cons_zero,List.set_cons_succ,go_sem,hf0])
  refine Le.trans (A9 [0,1] rfl rfl) ?_
  (try simp only [List.set_nil,List.take_nil,List.take_zero,List.map_append,go_sem])
  (try simp only [Fd])
  simp only [dw]
  exact WE
 have d2:decide ((k:Int)<(X.length:Int))=true:=by simpa using hlk
 obtain ⟨gD0,hfk,_⟩:=BN hv hD hlk
 have gD:=Am gD0
 have gW:=Am (show nw[k]?=some (nw.getD k 0) from by rw [gE2,gE1 (by omega)];rfl)
 have gO:=Ag (show O[XG D k]?=some (O.getD (XG D k) []) from by rw [gE2,gE1 (by omega)];rfl)
 have hkk:=hkg k hlk
 have hks:=cV (ky:=ky) (by omega) hkk
 have hkml:=cU (nk:=nk) (ky:=ky) (by omega) (k:=k) (by omega)
 have hrl:=hoz (XG D k)
 unfold dp at hkk hks
 generalize nw.getD k 0=x0 at *
 generalize O.getD (XG D k) []=row at *
 generalize XG D k=fk at *
 (refine Wu @d2 ?_;(repeat clear hK K);repeat refine kq fun K hK=>?_)
 refine WB ?_
 (refine Wu (an @A4 (an @hDl (an @gD (an @hNl (an @gW (an @A3 (an @hOl (an @gO (an @A2 @Ak))))))))) ?_;(repeat clear hK K);repeat refine kq fun K hK=>?_)
 refine A8 (fun m:Nat=>{ tm:=[(0,.a (.c (.p 0 0))),(3,.a (.c (.s 1 X.length))),(6,.a (.c (.t 1 (Ab nw)))),(8,.i (F9 X.length nw)),(9,.a (.c (.t 1 (Ah O)))),(10,.i k),(12,.a (.c (.s 2 (x0 :: bS (row.take m)).length))),(52,.a (.c (.t 1 (Ab D)))),(53,.i X.length),(54,.i k),(67,.a (.c (.t 2 (Ao row)))),(68,.i row.length),(69,.i m)],hp:=[.r (dw X D (Q.map Int.ofNat) dv),.r ⟨9,1,true,ZG (dt nk ky k)⟩,.r ⟨3,1,true,A7 (x0 :: bS (row.take m))⟩],n:=93,pin:=1 }) (fun m=>m<=row.length) (fun m=>row.length - m) 0 ?_ ?_ ?_
 ·omega
 ·simp only [List.take_zero,bS,List.flatMap_nil,A7,List.map_cons,List.map_nil,List.length_cons,List.length_nil,dw]
  exact WE
 rintro m hm K hK
 simp only [dw]
 have hfl:(x0 :: bS (row.take m)).length<=3000:=by rw [List.length_cons,aZ,List.length_take];omega
 by_cases hlm:m<row.length
 ·have d3:decide ((m:Int)<(row.length:Int))=true:=by simpa using hlm
  have hat:=AL hlm
  have hfs:=aM (row.take m) row[m]
  rw [<- gE8 hlm] at hfs
  have hnx:x0 :: bS (row.take (m+1))=(x0 :: bS (row.take m))++[row[m].1,row[m].2]:=by rw [hfs];rfl
  have hnl2:(bS (row.take (m+1))).length+1=(x0 :: bS (row.take m)).length+2:=by rw [hfs];simp
  generalize x0 :: bS (row.take m)=L at *
  have c2:=bV L row[m].1 row[m].2
  generalize row[m]=a at *
  obtain ⟨e,t⟩:=a
  simp only at hat c2 hnx
  (refine Wu @d3 ?_;(repeat clear hK K);repeat refine kq fun K hK=>?_)
  refine WB ?_
  (refine Cn (an @hat (an @A2 (an @Ak (an @A5 @c2)))) ?_;(repeat clear hK K);repeat refine kq fun K hK=>?_)
  refine WD ?_
  refine hK _ (m+1) (by omega) (by omega) ?_
  refine Le.trans (A9 [0,1,5] rfl rfl) ?_
  (try simp only [List.set_nil,List.take_nil,List.take_zero,List.map_append,go_sem])
  (try simp only [Fd,Af])
  rw [hnx]
  simp only [dw,List.length_append,List.length_cons,List.length_nil,hnl2]
  exact WE
 have d3:decide ((m:Int)<(row.length:Int))=false:=by simpa using hlm
 have hmr:row.take m=row:=gE7 (by omega)
 rw [hmr] at hfl ⊢
 generalize x0 :: bS row=L at *
 (refine Wu @d3 ?_;(repeat clear hK K);repeat refine kq fun K hK=>?_)
 refine WC ?_
 (refine Wx ?_;repeat clear hK K)
 have hfo2:(if L.length<=(Ab L).length then C.t 1 ((Ab L).take L.length) else C.u)=C.t 1 (Ab L):=by rw [if_pos (by rw [A4];exact Nat.le_refl _),gE7 (by rw [A4];exact Nat.le_refl _)]
 (refine Au (Bg (r:=⟨3,1,true,A7 L⟩) 2 (Ab L) rfl (EM _) (show 0<(1:Nat) by omega)) ?_;simp only [ST.frz,A0.frz,AV.frz,C.frz,Nat.le_refl,List.set_cons_zero,List.set_cons_succ,go_sem,hfo2])
 have hks2:(ZG (dt nk ky k)).set k (C.v (Jx L))=ZG (dt nk ky (k+1)):=by rw [<- hks];exact Jz _ _ _
 (refine Wt ?_;(repeat clear hK K);repeat refine kq fun K hK=>?_)
 (refine Wy (Uf L (by omega)) ?_;intro K1 hK1)
 rintro _ _ ⟨rfl,rfl⟩
 obtain ⟨sb,hsb⟩:∃ b,Jx L=Value.string b:=⟨_,rfl⟩
 rw [hsb] at hks2 ⊢
 (refine Wz ?_;clear hK1 K1)
 (refine Cn (an @Gt (an @hkml (an @hnkl @hks2))) ?_;(repeat clear hK K);repeat refine kq fun K hK=>?_)
 refine WD ?_
 refine hK _ (k+1) (by omega) (by omega) ?_
 refine Le.trans (A9 [0,1] rfl rfl) ?_
 (try simp only [List.set_nil,List.take_nil,List.take_zero,List.map_append,go_sem])
 (try simp only [Fd])
 simp only [dw]
 exact WE
set_option maxHeartbeats 2000000 in
theorem cC (R:List (List Ar)) (hv:Bv R=true) (hn:R.length<=100) (ht:Bw R<=1000) (hr:∀ r∈R,r.length<=1000000):FC Tryz.prog 23 [B7 R] [] (fun r o=>∃ c,DlC R c/\Nrm R.length c/\o=[]/\r=As c):=by
 refine A6 Tryz.func23 rfl (by rw [Tryz.ntmps23];simp) ?_
 rw [Tryz.ntmps23]
 simp only [Bf,B7]
 have hlo:BE R=true:=gEg (gE4 hv).1
 (refine Wt ?_;(repeat clear hK K);repeat refine kq fun K hK=>?_)
 (refine Wy (CD R (by omega) (fun r h=>by have:=hr r h;omega)) ?_;intro K1 hK1)
 rintro _ _ ⟨rfl,rfl⟩
 (refine Wz ?_;clear hK1 K1)
 rw [hv]
 (refine Wu @Bool.not_true ?_;(repeat clear hK K);repeat refine kq fun K hK=>?_)
 refine WC ?_
 (refine Wt ?_;(repeat clear hK K);repeat refine kq fun K hK=>?_)
 refine BS (HF 1 0 42 1 rfl rfl (by omega)) ?_
 simp only [go_sem]
 refine BS (HF 1 1 3 1 rfl rfl (by omega)) ?_
 simp only [go_sem]
 refine BS (HF 1 2 3 1 rfl rfl (by omega)) ?_
 simp only [go_sem]
 refine BS (HF 1 3 4 1 rfl rfl (by omega)) ?_
 simp only [go_sem]
 have hadd:=da [] R [] [] [] (.inl rfl) hv (by have:=(gE4 hlo).2.1;simpa using this) (by have:=(gE4 hlo).2.2.1;simpa [Bw] using this) hr (by simp) ⟨rfl,fun v h=>by simp at h⟩ ⟨rfl,fun v h=>by simp at h⟩
 rw [Q4] at hadd
 (refine Ai rfl ?_;intro K1 hK1;refine AH (ids:=[]) [1] (hadd) rfl rfl (by simp only [go_sem]) (by first | assumption | kernel_rfl) rfl rfl (by (simp only [List.map_append,List.append_nil,go_sem]) <;> rfl) (by (simp only [VS,du,Ah,Ab,X6,go_sem]) <;> rfl) ?_ ?_)
 ·rintro _ _ ⟨rfl,D,Q,B,_,_,_,rfl⟩;rfl
 rintro _ _ ⟨rfl,D,Q,B,hD,hB,hQ,rfl⟩
 simp only [du]
 (refine Wz ?_;clear hK1 K1)
 (refine Wt ?_;(repeat clear hK K);repeat refine kq fun K hK=>?_)
 refine BS (Cm 1 rfl) ?_
 simp only [VX,go_sem]
 (refine Ai rfl ?_;intro K1 hK1;refine AH (ids:=[]) [1] (dg R D Q B hv hn ht hr hD hQ hB) rfl rfl (by simp only [go_sem]) (by first | assumption | kernel_rfl) rfl rfl (by (simp only [List.map_append,List.append_nil,go_sem]) <;> rfl) (by (simp only [VS,dw,go_sem]) <;> rfl) ?_ ?_)
 ·rintro _ _ ⟨c,_,_,rfl,rfl⟩;rfl
 rintro _ _ ⟨c,hc,hN,rfl,rfl⟩
 simp only [dw]
 (refine Wz ?_;clear hK1 K1)
 (refine Wt ?_;(repeat clear hK K);repeat refine kq fun K hK=>?_)
 ((try refine Av ?_);(try simp only [Ae,AF]);refine B6 (A9 [] rfl rfl) ?_;(try simp only [List.set_nil,List.take_nil,List.take_zero,List.map_append,go_sem]);((try refine Av ?_);(try refine Aa ?_);(try simp only [Ae,AF]);refine Bj (by first | exact .inl rfl | exact .inr rfl) rfl ?_;simp only [VU,Dy,Du,DL,Tryz.results23,go_sem,true_and,and_true,As]))
 exact ⟨c,hc,hN,rfl⟩
theorem aF {C:List Int} {k:Nat} (h:k<C.length) {m:Int}:Zk (C.drop k) m=((!decide (C[k]<0) && !decide (C[k] > m)) && Zk (C.drop (k+1)) (ZB m C[k])):=by
 rw [List.drop_eq_getElem_cons h,Zk]
theorem aG {C:List Int} {k:Nat} (h:k<C.length):ZC 0 (C.take (k+1))=ZB (ZC 0 (C.take k)) C[k]:=by
 rw [gE8 h,YL]
theorem bF (C:List Int) (n:Nat) (hC:C.length<=9223372036854775807):FC Tryz.prog 113 [As C,.i n] [] (fun r o=>o=[]/\r=.b (Zy C n)):=by
 refine A6 Tryz.func113 rfl (by rw [Tryz.ntmps113];simp) ?_
 rw [Tryz.ntmps113]
 simp only [Bf,As]
 (refine Wu @A4 ?_;(repeat clear hK K);repeat refine kq fun K hK=>?_)
 refine A8 (fun k:Nat=>{ tm:=[(0,.a (.c (.t 1 (Ab C)))),(1,.i n),(5,.i (ZC 0 (C.take k))),(8,.a (.c (.t 1 (Ab C)))),(9,.i C.length),(10,.i k)],hp:=[],n:=30,pin:=0 }) (fun k=>k<=C.length/\Zk C 0=Zk (C.drop k) (ZC 0 (C.take k))/\0<=ZC 0 (C.take k)/\ZC 0 (C.take k)<=k) (fun k=>C.length - k) 0 ?_ ?_ ?_
 ·exact ⟨by omega,by simp [ZC],by simp [ZC],by simp [ZC]⟩
 ·have e:ZC 0 (C.take 0)=0:=by simp [ZC]
  rw [e]
  exact WE
 rintro k ⟨hk,hg,hm0,hmk⟩ K hK
 by_cases hlt:k<C.length
 rotate_left
 ·have d1:decide ((k:Int)<(C.length:Int))=false:=by simpa using hlt
  have hd:Zk C 0=true:=by rw [hg,List.drop_of_length_le (by omega)];rfl
  (refine Wu @d1 ?_;(repeat clear hK K);repeat refine kq fun K hK=>?_)
  refine WC ?_
  (refine Wx ?_;repeat clear hK K)
  (refine Wu @A4 ?_;(repeat clear hK K);repeat refine kq fun K hK=>?_)
  refine WH Tryz.results113 ?_
  have e:((C.length:Int) == (n:Int))=decide (C.length=n):=by rw [Bool.eq_iff_iff,beq_iff_eq,decide_eq_true_iff];omega
  rw [Zy,hd,Bool.true_and,e]
 have d1:decide ((k:Int)<(C.length:Int))=true:=by simpa using hlt
 have gc:=Am (gE1 hlt)
 have hs:=aF hlt (m:=ZC 0 (C.take k))
 have hx:=aG hlt
 generalize C[k]=c at *
 generalize ZC 0 (C.take k)=m at *
 rw [hs] at hg
 by_cases h1:c<0
 ·have d2:decide (c<0)=true:=by simpa using h1
  (refine Wu @d1 ?_;(repeat clear hK K);repeat refine kq fun K hK=>?_)
  refine WB ?_
  (refine Wu (an @A4 (an @gc @d2)) ?_;(repeat clear hK K);repeat refine kq fun K hK=>?_)
  refine WB ?_
  (refine Wt ?_;(repeat clear hK K);repeat refine kq fun K hK=>?_)
  refine WH Tryz.results113 ?_
  simp [Zy,hg,h1]
 have d2:decide (c<0)=false:=by simpa using h1
 by_cases h2:c > m
 ·have d3:decide (c > m)=true:=by simpa using h2
  (refine Wu @d1 ?_;(repeat clear hK K);repeat refine kq fun K hK=>?_)
  refine WB ?_
  (refine Wu (an @A4 (an @gc (an @d2 @d3))) ?_;(repeat clear hK K);repeat refine kq fun K hK=>?_)
  refine WB ?_
  (refine Wt ?_;(repeat clear hK K);repeat refine kq fun K hK=>?_)
  refine WH Tryz.results113 ?_
  simp [Zy,hg,h2]
 have d3:decide (c > m)=false:=by simpa using h2
 (refine Wu @d1 ?_;(repeat clear hK K);repeat refine kq fun K hK=>?_)
 refine WB ?_
 (refine Wu (an @A4 (an @gc (an @d2 @d3))) ?_;(repeat clear hK K);repeat refine kq fun K hK=>?_)
 refine WC ?_
 (refine Wt ?_;(repeat clear hK K);repeat refine kq fun K hK=>?_)
 refine WD ?_
 have h3:0<=ZB m c/\ZB m c<=m+1:=by unfold ZB;split <;> omega
 refine hK _ (k+1) ⟨by omega,by rw [hg,hx,d2,d3];simp,by rw [hx];omega,by rw [hx];omega⟩ (by omega) ?_
 have e:(if c+1 > m then c+1 else m)=ZC 0 (C.take (k+1)):=by rw [hx];rfl
 rw [<- e]
 exact WE
theorem aW (C:List Int) (h1:0<C.length) (hC:C.length<=140737488355328):FC Tryz.prog 82 [As C] [] (fun r o=>o=[]/\r=.i (ZU C[0] C)):=by
 refine A6 Tryz.func82 rfl (by rw [Tryz.ntmps82];simp) ?_
 rw [Tryz.ntmps82]
 simp only [Bf,As]
 have d0:decide ((C.length:Int)<1)=false:=by simp;omega
 have g0:(Ab C)[0]?=some (.v (.int .i64 C[0])):=Am (gE1 h1)
 (refine Wu (an @A4 @d0) ?_;(repeat clear hK K);repeat refine kq fun K hK=>?_)
 refine WC ?_
 (refine Wu (an @A4 (an @g0 @Int.toNat_zero)) ?_;(repeat clear hK K);repeat refine kq fun K hK=>?_)
 refine A8 (fun k:Nat=>{ tm:=[(0,.a (.c (.t 1 (Ab C)))),(3,.i (ZU C[0] (C.take k))),(4,.i k)],hp:=[],n:=25,pin:=0 }) (fun k=>1<=k/\k<=C.length) (fun k=>C.length - k) 1 ?_ ?_ ?_
 ·omega
 ·have e:C.take 1=[C[0]]:=by rw [gE8 h1];rfl
  have e2:ZU C[0] [C[0]]=C[0]:=by simp [ZU]
  (refine BG ?_;simp only [Dg,go_sem,e,e2];try simp)
 rintro k ⟨hk1,hk⟩ K hK
 by_cases hlt:k<C.length
 rotate_left
 ·have d1:decide ((k:Int)<(C.length:Int))=false:=by simpa using hlt
  have he:C.take k=C:=gE7 (by omega)
  rw [he]
  (refine Wu (an @A4 @d1) ?_;(repeat clear hK K);repeat refine kq fun K hK=>?_)
  refine WC ?_
  (refine Wx ?_;repeat clear hK K)
  (refine Wt ?_;(repeat clear hK K);repeat refine kq fun K hK=>?_)
  exact M6 Tryz.results82
 have d1:decide ((k:Int)<(C.length:Int))=true:=by simpa using hlt
 have g1:=Am (gE1 hlt)
 (refine Wu (an @A4 @d1) ?_;(repeat clear hK K);repeat refine kq fun K hK=>?_)
 refine WB ?_
 (refine Wu (an @A4 @g1) ?_;(repeat clear hK K);repeat refine kq fun K hK=>?_)
 refine WD ?_
 refine hK _ (k+1) ⟨by omega,by omega⟩ (by omega) ?_
 have e:=gE8 hlt
 (refine BG ?_;simp only [Dg,go_sem,e,ay];try simp)
theorem aH (R:List (List Ar)):∀ (f i:Nat) (num old:List Int) (out:List (List Ar)),∃ l,(F2 R f i num old out).1=out++l:=by
 intro f
 induction f with
 | zero=>intro i num old out;exact ⟨[],by simp [F2]⟩
 | succ f ih=>
  intro i num old out
  unfold F2
  split
  ·exact ⟨[],by simp⟩
  obtain ⟨l,hl⟩:=ih (i+1) (Cr (Cq (R.getD (Int.toNat ‹_›) [])) num old []).1 (Cr (Cq (R.getD (Int.toNat ‹_›) [])) num old []).2.1 (out++[(Cr (Cq (R.getD (Int.toNat ‹_›) [])) num old []).2.2])
  exact ⟨_ :: l,by rw [hl,List.append_assoc];rfl⟩
theorem aj (x y:List (List Ar)):Bw (x++y)=Bw x+Bw y:=by simp [Bw]
theorem aP (r:List Ar):Bw [r]=r.length:=by simp [Bw]
def cc (q:List (List Ar)) (r:AV) (o:List Ob):Prop:=
 if Bw q<=262144 then o=[.r ⟨25,1,false,[.t 1 (Ah q)]⟩]/\r=.tup [.g [.t 1 (Ah q)],.c (.v (.bool true))]
 else o=[.r ⟨25,1,false,[.v (.slice none 0 0)]⟩]/\r=.tup [.g [.v (.slice none 0 0)],.c (.v (.bool false))]
set_option maxHeartbeats 8000000 in
theorem aI (R:List (List Ar)) (h1:1<=R.length) (hbd:∀ r∈R,∀ a∈r,0<=a.2/\a.2<(R.length:Int)) (hn:R.length<=1000000) (hr:∀ r∈R,r.length<=1000000):FC Tryz.prog 114 [.a (.c (.t 1 (Ah R)))] [] (cc (BT R).1):=by
 refine A6 Tryz.func114 rfl (by rw [Tryz.ntmps114];simp) ?_
 rw [Tryz.ntmps114]
 simp only [Bf]
 (refine Wu @A3 ?_;(repeat clear hK K);repeat refine kq fun K hK=>?_)
 (refine Ai rfl ?_;intro K1 hK1;refine AH (ids:=[]) [1] (Gg (-1) R.length h1 hn) rfl rfl (by simp only [go_sem]) (by first | assumption | kernel_rfl) rfl rfl (by (simp only [List.map_append,List.append_nil,go_sem]) <;> rfl) (by (simp only [VS,AA,A7,go_sem]) <;> rfl) ?_ ?_)
 ·rintro _ _ ⟨rfl,rfl⟩;rfl
 rintro _ _ ⟨rfl,rfl⟩
 (simp only [As,Bl,AA,BQ,List.append_nil,List.nil_append,List.length_map,go_sem];refine hK1 _ ?_;clear hK1 K1)
 have g0:0<(List.replicate R.length (-1:Int)).length:=by simp;omega
 (refine Cn (an @A5 (an @List.length_replicate.{0} @AK)) ?_;(repeat clear hK K);repeat refine kq fun K hK=>?_)
 refine Au (Nl 42 1) ?_
 simp only [List.cons_append,List.nil_append]
 refine Au (Jj 4 0 5 (by decide) rfl rfl rfl) ?_
 simp only [List.set_cons_zero,List.set_cons_succ]
 refine Au (A9 [0,2,3,4,5] rfl rfl) ?_
 (try simp only [List.set_nil,List.take_nil,List.take_zero,List.map_append,go_sem])
 (try simp only [Af])
 refine A8 (fun x:Nat × List Int × List Int × List (List Ar)=>{ tm:=[(0,.a (.c (.t 1 (Ah R)))),(2,.a (.c (.p 0 0))),(4,.a (.c (.s 1 R.length))),(5,.a (.c (.s 2 x.2.2.1.length))),(6,.i (Bw x.2.2.2)),(7,.a (.c (.p 3 0))),(8,.i x.1)],hp:=[.r ⟨25,1,false,[.v (.slice none 0 0)]⟩,.r ⟨3,1,true,A7 x.2.1⟩,.r ⟨3,1,true,A7 x.2.2.1⟩,.r ⟨25,1,false,[.s 4 x.1]⟩,.r ⟨42,1,true,AO x.2.2.2⟩],n:=87,pin:=0 }) (fun x=>NumOk R.length x.2.1 x.2.2.1/\NumInj x.2.1 x.2.2.1/\F2 R (R.length - x.1) x.1 x.2.1 x.2.2.1 x.2.2.2=BT R/\x.1<=x.2.2.1.length/\x.2.2.2.length=x.1/\Bw x.2.2.2<=262144) (fun x=>R.length - x.1) (0,(List.replicate R.length (-1)).set 0 0,[0],[]) ?_ ?_ ?_
 ·exact ⟨NumOk.start h1,NumInj.start h1,rfl,by simp,rfl,by simp [Bw]⟩
 ·simp only [Bw,List.map_nil,List.sum_nil]
  exact WE
 rintro ⟨i,num,old,out⟩ ⟨hN,hI,hC,hio,hoi,hto⟩ K hK
 simp only at hN hI hC hio hoi hto
 have hlen:=hN.len
 have hle:=hN.le
 by_cases hlt:i<old.length
 rotate_left
 ·have d1:decide ((i:Int)<(old.length:Int))=false:=by simpa using hlt
  have hfin:BT R=(out,old):=by rw [<- hC];exact GT (by omega)
  (refine Wu (an @d1 @A5) ?_;(repeat clear hK K);repeat refine kq fun K hK=>?_)
  refine WC ?_
  (refine Wx ?_;repeat clear hK K)
  refine Au (AR (r:=⟨42,1,true,AO out⟩) (ri:=⟨25,1,false,[.s 4 i]⟩) (ts:=Ah out) 3 0 4 i (by decide) rfl rfl rfl rfl (show 0<1 by omega) (by simp only [Ay,hoi];omega) (CZ _)) ?_
  simp only [go_sem]
  refine Au (Cm 3 rfl) ?_
  simp only [VX,go_sem]
  (refine Jb ?_;(repeat clear hK K);repeat refine kq fun K hK=>?_)
  refine WF [0] Tryz.results114 ?_
  rw [hfin]
  unfold cc
  rw [if_pos hto]
  exact ⟨rfl,rfl⟩
 have d1:decide ((i:Int)<(old.length:Int))=true:=by simpa using hlt
 have hs0:=hN.st _ (gE6 hlt)
 obtain ⟨sn,hsn⟩:∃ sn:Nat,old[i]=sn:=⟨old[i].toNat,by omega⟩
 have hsl:sn<R.length:=by omega
 have go:(A7 old)[i]?=some (.v (.int .i64 sn)):=by rw [<- hsn];exact Aq (gE1 hlt)
 have hgR:=gE1 hsl
 have hrl:=hr _ (gE6 hsl)
 have hst:=GU (rows:=R) (n:=R.length) (i:=i) (num:=num) (old:=old) (out:=out) (s:=(sn:Int)) (r:=R[sn]) (by omega) (by rw [gE1 hlt,hsn]) (by simp [hgR]) rfl
 generalize hrr:R[sn]=r at *
 have hcl:=GQ (Ao r) (by rw [A2];omega)
 rw [Kt,A2,Ak] at hcl
 (refine Wu (an @d1 @A5) ?_;(repeat clear hK K);repeat refine kq fun K hK=>?_)
 refine WB ?_
 (refine Wu (an @A3 (an (Ag hgR) (an @A5 @go))) ?_;(repeat clear hK K);repeat refine kq fun K hK=>?_)
 (refine Wy hcl ?_;intro K1 hK1)
 rintro _ _ ⟨rfl,rfl⟩
 (simp only [As,Bl,CN,List.append_nil,List.nil_append,List.length_map,go_sem];refine hK1 _ ?_;clear hK1 K1)
 (refine Wt ?_;(repeat clear hK K);repeat refine kq fun K hK=>?_)
 (refine Ai rfl ?_;intro K1 hK1;refine AH (ids:=[]) [5] (Kr 139 (by kernel_rfl) au r (by omega)) rfl rfl (by simp only [go_sem]) (by first | assumption | kernel_rfl) rfl rfl (by (simp only [List.map_append,List.append_nil,go_sem]) <;> rfl) (by (simp only [VS,CH,go_sem]) <;> rfl) ?_ ?_)
 ·rintro _ _ ⟨rfl,L',_,_,rfl⟩;rfl
 rintro _ _ ⟨rfl,L',hperm,hsort,rfl⟩
 (simp only [As,Bl,CN,List.append_nil,List.nil_append,List.length_map,go_sem];refine hK1 _ ?_;clear hK1 K1)
 have hLl:=hperm.length_eq
 have hq:LJ L'=Cq r:=by rw [Nd];exact N1 hperm hsort
 rw [<- hLl]
 (refine Wt ?_;(repeat clear hK K);repeat refine kq fun K hK=>?_)
 (refine Ai rfl ?_;intro K1 hK1;refine AH (ids:=[]) [5] (It L' (by omega)) rfl rfl (by simp only [go_sem]) (by first | assumption | kernel_rfl) rfl rfl (by (simp only [List.map_append,List.append_nil,go_sem]) <;> rfl) (by (simp only [VS,CH,go_sem]) <;> rfl) ?_ ?_)
 ·rintro _ _ ⟨rfl,rest,us,_,_,rfl⟩;rfl
 rintro _ _ ⟨rfl,rest,us,hrest,hr0,rfl⟩
 (simp only [As,Bl,CN,List.append_nil,List.nil_append,List.length_map,go_sem];refine hK1 _ ?_;clear hK1 K1)
 (refine Wt ?_;(repeat clear hK K);repeat refine kq fun K hK=>?_)
 obtain ⟨q,hqd⟩:∃ q,q=Cq r:=⟨_,rfl⟩
 rw [<- hqd] at hq hst
 have hqs:SortA q:=by rw [hqd];exact B9 r
 have hql:q.length<=1000000:=by rw [hqd];exact Nat.le_trans (Gj r) (by omega)
 have hqb:∀ a∈q,0<=a.2/\a.2<(R.length:Int):=fun a ha=>by
  rw [hqd,C8] at ha
  exact hbd r (by rw [<- hrr];exact gE6 hsl) a ha
 rw [hq]
 refine Au (S0 5 (q.length*2) rfl ?_) ?_
 ·intro _ h
  rw [Ku _ _ _ (CN _ _)] at h
  have hq0:q=[]:=by
   have:=congrArg List.length h
   rw [Ap] at this
   exact List.length_eq_zero_iff.1 (by simp at this;omega)
  have hL0:L'=[]:=by
   cases L' with
   | nil=>rfl
   | cons x xs=>
    have:LJ (x :: xs)=[]:=by rw [hq,hq0]
    simp [LJ] at this
  rw [hr0 hL0,hq0];rfl
 simp only [Ku _ _ _ (CN _ _),go_sem]
 refine A8 (fun x:Nat × List Int × List Int × List Ar=>{ tm:=[(0,.a (.c (.t 1 (Ah R)))),(2,.a (.c (.p 0 0))),(4,.a (.c (.s 1 R.length))),(5,.a (.c (.s 2 x.2.2.1.length))),(6,.i (Bw out)),(7,.a (.c (.p 3 0))),(8,.i i),(9,.a (.c (.s 5 q.length))),(37,.a (.c (.s 5 q.length))),(38,.i q.length),(39,.i x.1)],hp:=[.r ⟨25,1,false,[.v (.slice none 0 0)]⟩,.r ⟨3,1,true,A7 x.2.1⟩,.r ⟨3,1,true,A7 x.2.2.1⟩,.r ⟨25,1,false,[.s 4 i]⟩,.r ⟨42,1,true,AO out⟩,.r ⟨46,2,true,Ax x.2.2.2⟩],n:=87,pin:=0 }) (fun x=>x.1<=q.length/\x.2.2.2.length=q.length/\NumOk R.length x.2.1 x.2.2.1/\old.length<=x.2.2.1.length/\NL (Eh q num old) x.2.2.2 q x.1 x.2.1 x.2.2.1) (fun x=>q.length - x.1) (0,num,old,q) ?_ ?_ ?_
 ·exact ⟨by simp,rfl,hN,Nat.le_refl _,NL.start q num old⟩
 ·exact WE
 rintro ⟨k,num1,old1,ya⟩ ⟨hk,hyl,hN1,hol,hNL⟩ K hK
 simp only at hk hyl hN1 hol hNL
 have hlen1:=hN1.len
 have hle1:=hN1.le
 by_cases hlt2:k<q.length
 rotate_left
 ·have d2:decide ((k:Int)<(q.length:Int))=false:=by simpa using hlt2
  obtain ⟨f1,f2,f3⟩:=hNL.fin (by omega) hyl
  have hnd:ya.Nodup:=by rw [f1];exact LG q hqs (fun a ha=>by rw [hlen];exact hqb a ha) hI
  have hI2:NumInj num1 old1:=by rw [f2,f3];exact Kl q (fun a ha=>by rw [hlen];exact hqb a ha) hI
  (refine Wu @d2 ?_;(repeat clear hK K);repeat refine kq fun K hK=>?_)
  refine WC ?_
  (refine Wx ?_;repeat clear hK K)
  rw [<- hyl]
  (refine Wt ?_;(repeat clear hK K);repeat refine kq fun K hK=>?_)
  (refine Ai rfl ?_;intro K1 hK1;refine AH (ids:=[]) [5] (Kr 139 (by kernel_rfl) au ya (by omega)) rfl rfl (by simp only [go_sem]) (by first | assumption | kernel_rfl) rfl rfl (by (simp only [List.map_append,List.append_nil,go_sem]) <;> rfl) (by (simp only [VS,CH,go_sem]) <;> rfl) ?_ ?_)
  ·rintro _ _ ⟨rfl,L2,_,_,rfl⟩;rfl
  rintro _ _ ⟨rfl,L2,hp2,hs2,rfl⟩
  (simp only [As,Bl,CN,List.append_nil,List.nil_append,List.length_map,go_sem];refine hK1 _ ?_;clear hK1 K1)
  have hL2:L2=Cq ya:=LE hnd hp2 hs2
  have hL2l:=hp2.length_eq
  rw [<- hL2l]
  (refine BS (Bg (r:=⟨46,2,true,Ax L2⟩) 5 (Ao L2) rfl (Dl _) (show 0<(2:Nat) by omega)) ?_;simp only [ST.frz,A0.frz,AV.frz,C.frz,Nat.le_refl,List.set_cons_zero,List.set_cons_succ,go_sem,A2,Ak,BA,List.take_length])
  have htt:Bw (out++[L2])=Bw out+L2.length:=by rw [aj,aP]
  have hCn:F2 R (R.length - (i+1)) (i+1) num1 old1 (out++[L2])=BT R:=by
   rw [<- hC,hst,LF,f2,f3,hL2,f1]
   rfl
  by_cases htb:Bw (out++[L2]) > 262144
  ·have d5:decide ((Bw out:Int)+(L2.length:Int) > 262144)=true:=gEg (by omega)
   (refine Wu (an @A2 (an @Ak @d5)) ?_;(repeat clear hK K);repeat refine kq fun K hK=>?_)
   refine WB ?_
   (refine Jb ?_;(repeat clear hK K);repeat refine kq fun K hK=>?_)
   refine WF [0] Tryz.results114 ?_
   obtain ⟨l,hl⟩:=aH R (R.length - (i+1)) (i+1) num1 old1 (out++[L2])
   rw [hCn] at hl
   unfold cc
   rw [if_neg (by rw [hl,aj];omega)]
   exact ⟨rfl,rfl⟩
  have d5:decide ((Bw out:Int)+(L2.length:Int) > 262144)=false:=decide_eq_false (by omega)
  have crp:=GX out L2 hoi
  have ett:(Bw out:Int)+(L2.length:Int)=(Bw (out++[L2]):Int):=by omega
  (refine Wu (an @A2 (an @Ak @d5)) ?_;(repeat clear hK K);repeat refine kq fun K hK=>?_)
  refine WC ?_
  (refine Cn (an @crp (an @Ay @hoi)) ?_;(repeat clear hK K);repeat refine kq fun K hK=>?_)
  refine WD ?_
  refine hK _ (i+1,num1,old1,out++[L2]) ⟨hN1,hI2,hCn,by simp only;omega,by simp [hoi],by simp only;omega⟩ (by simp only;omega) ?_
  refine Le.trans (A9 [0,1,2,3,7] rfl rfl) ?_
  (try simp only [List.set_nil,List.take_nil,List.take_zero,List.map_append,go_sem])
  (try simp only [Af,Bs,ett])
  exact WE
 have d2:decide ((k:Int)<(q.length:Int))=true:=by simpa using hlt2
 have hky:k<ya.length:=by omega
 have hyq:ya[k]=q[k]:=by
  have:=congrArg (fun l=>l[0]?) hNL.2.2.2
  simp only [List.getElem?_drop,Nat.add_zero] at this
  rw [gE1 hky,gE1 hlt2] at this
  exact Option.some.inj this
 have hyb:=hqb _ (gE6 hlt2)
 rw [<- hyq] at hyb
 obtain ⟨e,tn,hya⟩:∃ (e:Int) (tn:Nat),ya[k]=(e,(tn:Int)):=⟨ya[k].1,ya[k].2.toNat,by
  have:(ya[k].2.toNat:Int)=ya[k].2:=by omega
  rw [this]⟩
 have hyk:ya[k]?=some (e,(tn:Int)):=by rw [gE1 hky,hya]
 have htl:tn<R.length:=by rw [hya] at hyb;have:=hyb.2;simp only at this;omega
 have hat:=DR hky
 rw [hya] at hat
 have gn:(A7 num1)[tn]?=some (.v (.int .i64 num1[tn])):=Aq (gE1 (by omega))
 have gn2:num1[tn]?=some num1[tn]:=gE1 (by omega)
 (refine Wu @d2 ?_;(repeat clear hK K);repeat refine kq fun K hK=>?_)
 refine WB ?_
 by_cases hx:num1[tn]<0
 rotate_left
 ·have d3:decide (num1[tn]<0)=false:=by simpa using hx
  have cs:=F5 hyk num1[tn]
  (refine Cn (an @hat (an @Ap (an @hyl (an @gn (an @d3 (an @A5 @hlen1)))))) ?_;(repeat clear hK K);repeat refine kq fun K hK=>?_)
  refine WC ?_
  (refine Cn (an @gn (an @cs (an @Ap (an @hyl (an @A5 @hlen1))))) ?_;(repeat clear hK K);repeat refine kq fun K hK=>?_)
  refine WD ?_
  refine hK _ (k+1,num1,old1,ya.set k (e,num1[tn])) ⟨hlt2,by simp [hyl],hN1,hol,hNL.pos hyk gn2 hx⟩ (by simp only;omega) ?_
  refine Le.trans (A9 [0,1,2,3,4,5] rfl rfl) ?_
  (try simp only [List.set_nil,List.take_nil,List.take_zero,List.map_append,go_sem])
  (try simp only [Af,CH,Bs])
  exact WE
 have d3:decide (num1[tn]<0)=true:=by simpa using hx
 have gs:(A7 (num1.set tn (old1.length:Int)))[tn]?=some (.v (.int .i64 (old1.length:Int))):=Aq (gEc (by omega))
 have op:=Ho old1 (tn:Int)
 have cs:=F5 hyk (old1.length:Int)
 (refine Cn (an @hat (an @Ap (an @hyl (an @gn (an @d3 (an @A5 @hlen1)))))) ?_;(repeat clear hK K);repeat refine kq fun K hK=>?_)
 refine WB ?_
 (refine Cn (an @A5 (an @hlen1 (an @AK (an @op (an @gs (an @cs (an @Ap (an @hyl @List.length_set.{0})))))))) ?_;(repeat clear hK K);repeat refine kq fun K hK=>?_)
 refine WD ?_
 have hone:AX num1 old1 (tn:Int)=(num1.set tn (old1.length:Int),old1++[(tn:Int)]):=by
  simp only [AX,Int.toNat_natCast,List.getD,gn2,Option.getD_some,if_pos hx]
 have hN2:=hN1.one (t:=(tn:Int)) (by omega) (by omega)
 rw [hone] at hN2
 refine hK _ (k+1,num1.set tn (old1.length:Int),old1++[(tn:Int)],ya.set k (e,(old1.length:Int))) ⟨hlt2,by simp [hyl],hN2,by simp;omega,hNL.neg hyk gn2 hx rfl⟩ (by simp only;omega) ?_
 refine Le.trans (A9 [0,1,8,3,4,5] rfl rfl) ?_
 (try simp only [List.set_nil,List.take_nil,List.take_zero,List.map_append,go_sem])
 (try simp only [Af,CH,Bs])
 simp only [List.length_append,List.length_cons,List.length_nil]
 exact WE
end Go.Proofs.YtjijjfkalheokaaGreatDoor
