/- Lemmas. -/
import Derived.Test.YtjijjfkalheokaaGreatDoorZk
import Derived.Test.YtjijjfkalheokaaGreatDoorG67
import Derived.Test.YtjijjfkalheokaaGreatDoorG80
import Derived.Test.YtjijjfkalheokaaGreatDoorG70
import Derived.Test.YtjijjfkalheokaaGreatDoorG37
import Derived.Test.YtjijjfkalheokaaGreatDoorTl3
import Derived.Test.YtjijjfkalheokaaGreatDoorG59
import Derived.Test.YtjijjfkalheokaaGreatDoorW07
import Derived.Test.YtjijjfkalheokaaGreatDoorBase
import Derived.Deep.Slices
import Derived.ProofKit
import Derived.Test.YtjijjfkalheokaaGreatDoorMF
import Derived.Test.YtjijjfkalheokaaGreatDoorRows
import Derived.OpenShut
import Derived.Test.YtjijjfkalheokaaGreatDoorMA
import Derived.Lib.LaidTab
import Derived.LaidMore
namespace Go.Proofs.YtjijjfkalheokaaGreatDoor
set_option linter.unusedVariables false
set_option linter.unusedSimpArgs false
open Go.RowKit
set_option maxRecDepth 100000
attribute [local go_sem] lga C.pl C.one

def cd (x:List (List Ar)) (r:AV) (o:List Ob):Prop:=
 if Bw x<=262144 then o=[.r ⟨25,1,false,[.t 1 (Ah x)]⟩]/\r=.tup [.g [.t 1 (Ah x)],.c (.v (.int .i64 0))]
 else o=[.r ⟨25,1,false,[.v (.slice none 0 0)]⟩]/\r=.tup [.g [.v (.slice none 0 0)],.c (.v (.int .i64 10))]
set_option maxHeartbeats 8000000 in
theorem bG (R:List (List Ar)) (cl:List Int) (hv:Bv R=true) (hC:Zy cl R.length=true) (hn:R.length<=1000000) (hr:∀ r∈R,r.length<=1000000):FC Tryz.prog 83 [B7 R,As cl] [] (fun r o=>∃ B,DvL R B/\cd (BT (qR R cl B)).1 r o):=by
 refine A6 Tryz.func83 rfl (by rw [Tryz.ntmps83];simp) ?_
 rw [Tryz.ntmps83]
 simp only [Bf,B7,As]
 have hlo:BE R=true:=gEg (gE4 hv).1
 have h1:1<=R.length:=(gE4 hlo).1
 have hR16:R.length<=16384:=(gE4 hlo).2.1
 have htA:Bw R<=262144:=(gE4 hlo).2.2.1
 have hbd:=(gE4 hlo).2.2.2
 obtain ⟨hCl,hmn,hcl,hmx⟩:=Y2 hC
 have hcl1:0<cl.length:=by omega
 have hmax:ZU cl[0] cl+1=(bZ cl:Int):=by
  have h0:0<=cl[0]:=by
   have:=(hcl 0 (by omega)).2
   rw [gE1 hcl1] at this
   injection this with this
   omega
  rw [<- hmx]
  cases cl with
  | nil=>simp at hcl1
  | cons x l=>exact (ah l h0).symm
 have hm1:1<=bZ cl:=by have:=(hcl 0 (by omega)).1;omega
 (refine Wt ?_;(repeat clear hK K);repeat refine kq fun K hK=>?_)
 (refine Wy (CD R (by omega) (fun r h=>by have:=hr r h;omega)) ?_;intro K1 hK1)
 rintro _ _ ⟨rfl,rfl⟩
 (refine Wz ?_;clear hK1 K1)
 (refine Wu (an @hv (an @Bool.not_true @A3)) ?_;(repeat clear hK K);repeat refine kq fun K hK=>?_)
 (refine BV rfl rfl (by simp only [go_sem] <;> rfl) ?_;intro K1 hK1;refine (Bb (ids:=[]) (bF cl R.length (by omega)) rfl rfl (by simp only [go_sem]) (by kernel_rfl) (by (simp only [List.append_nil,go_sem]) <;> rfl) ?_).stp)
 rintro _ _ ⟨rfl,rfl⟩
 (refine Wz ?_;clear hK1 K1)
 (refine Wu (an @hC @Bool.not_true) ?_;(repeat clear hK K);repeat refine kq fun K hK=>?_)
 refine WC ?_
 (refine Wt ?_;(repeat clear hK K);repeat refine kq fun K hK=>?_)
 (refine Wy (Nn R hv hn hr) ?_;intro K1 hK1)
 rintro _ _ ⟨B,hB,rfl,rfl⟩
 (refine Wz ?_;clear hK1 K1)
 have hBl:=hB.1
 have hB2:∀ s,s<R.length->B[s]?=some (B.getD s false):=fun s hs=>by rw [gE2,gE1 (by omega)];rfl
 have hend:∀ r o,cd (BT (qR R cl B)).1 r o->∃ B,DvL R B/\cd (BT (qR R cl B)).1 r o:=fun r o h=>⟨B,hB,h⟩
 (refine Wt ?_;(repeat clear hK K);repeat refine kq fun K hK=>?_)
 (refine Wy (aW cl hcl1 (by omega)) ?_;intro K1 hK1)
 rintro _ _ ⟨rfl,rfl⟩
 (refine Wz ?_;clear hK1 K1)
 have hqR:=bC (B:=B) hlo hC
 have hqe:qR R cl B=Z2 (c9 (bY cl) (bZ cl) B R.length) (R0 (bY cl) (bZ cl) R R.length) (bZ cl):=rfl
 rw [hqe] at hqR
 generalize ZU cl[0] cl=mx at *
 generalize hm:bZ cl=m at *
 generalize hf:bY cl=f at *
 (refine Wu (an @hmax @A3) ?_;(repeat clear hK K);repeat refine kq fun K hK=>?_)
 have e1:List.replicate m (C.o (2,46) [])=Aw (R0 f m R 0):=by simp [Aw,R0,Ao]
 have e2:List.replicate m (C.v (.bool false))=WU (c9 f m B 0):=by
  have:c9 f m B 0=List.replicate m false:=List.ext_getElem (by simp [c9]) fun i h1 h2=>by simp [c9]
  rw [this];simp [WU]
 rw [e1,e2]
 have hfm:∀ v,v<R.length->f v<m:=fun v hv=>(hcl v hv).1
 refine A8 (fun s:Nat=>{ tm:=[(1,.a (.c (.t 1 (Ab cl)))),(2,.a (.c (.p 0 0))),(4,.a (.c (.p 1 0))),(6,.a (.c (.t 1 (X6 B)))),(7,.a (.c (.s 2 m))),(8,.a (.c (.s 3 m))),(40,.a (.c (.t 1 (Ah R)))),(41,.i R.length),(42,.i s)],hp:=[.r ⟨25,1,false,[.t 1 (Ah R)]⟩,.r ⟨25,1,false,[.v (.slice none 0 0)]⟩,.r ⟨42,1,true,Aw (R0 f m R s)⟩,.r ⟨4,1,true,WU (c9 f m B s)⟩],n:=130,pin:=0 }) (fun s=>s<=R.length) (fun s=>R.length - s) 0 ?_ ?_ ?_
 ·omega
 ·exact WE
 rintro s hs K hK
 by_cases hlt:s<R.length
 rotate_left
 ·have d1:decide ((s:Int)<(R.length:Int))=false:=by simpa using hlt
  have hse:s=R.length:=by omega
  rw [hse] at d1
  rw [hse]
  (refine Wu @d1 ?_;(repeat clear hK K);repeat refine kq fun K hK=>?_)
  refine WC ?_
  (refine Wx ?_;repeat clear hK K)
  have hLl:=ZK f m B R.length
  have hOl:=Y0 f m R R.length
  have hOt:=ZQ f m R R.length (Nat.le_refl _)
  rw [List.take_length] at hOt
  generalize c9 f m B R.length=L at *
  generalize R0 f m R R.length=O at *
  (refine Au (Bg (r:=⟨4,1,true,WU L⟩) 3 (X6 L) rfl (PP _) (show 0<(1:Nat) by omega)) ?_;simp only [ST.frz,A0.frz,AV.frz,C.frz,Nat.le_refl,List.set_cons_zero,List.set_cons_succ,go_sem,show (X6 L).take m=X6 L from gE7 (by rw [BD];omega),BD,hLl])
  (refine Wu (an @BD @hLl) ?_;(repeat clear hK K);repeat refine kq fun K hK=>?_)
  refine Au (A9 [1,2] rfl rfl) ?_
  (try simp only [List.set_nil,List.take_nil,List.take_zero,List.map_append,go_sem])
  (try simp only [Ch])
  refine A8 (fun k:Nat=>{ tm:=[(4,.a (.c (.p 0 0))),(7,.a (.c (.s 1 m))),(101,.a (.c (.t 1 (X6 L)))),(102,.i m),(103,.i k)],hp:=[.r ⟨25,1,false,[.v (.slice none 0 0)]⟩,.r ⟨42,1,true,Aw (Z2 L O k)⟩],n:=130,pin:=0 }) (fun k=>k<=m) (fun k=>m - k) 0 ?_ ?_ ?_
  ·omega
  ·simp only [Z2]
   exact WE
  rintro k hk K hK
  by_cases hlk:k<m
  rotate_left
  ·have d2:decide ((k:Int)<(m:Int))=false:=by simpa using hlk
   have hke:k=m:=by omega
   rw [hke] at d2
   rw [hke]
   (refine Wu @d2 ?_;(repeat clear hK K);repeat refine kq fun K hK=>?_)
   refine WC ?_
   (refine Wx ?_;repeat clear hK K)
   obtain ⟨hql,hqb,hqt⟩:=hqR
   generalize Z2 L O m=T at *
   have hrT:∀ r∈T,r.length<=1000000:=fun r hr0=>by
    obtain ⟨j,hj,rfl⟩:=List.getElem_of_mem hr0
    have h:=PH T j
    rw [gE2,gE1 hj,Option.getD_some] at h
    omega
   have hco:=aI T (by omega) (fun r hr0 a ha=>by have:=hqb r hr0 a ha;exact ⟨this.2.2.1,this.2.2.2⟩) (by omega) hrT
   generalize hxe:(BT T).1=x at *
   refine Au (Cm 1 rfl) ?_
   simp only [Cl,go_sem]
   have htk:(Ah T).take m=Ah T:=gE7 (by rw [A3];omega)
   (refine Au (Bg (r:=⟨42,1,true,AO T⟩) 1 (Ah T) rfl (CZ _) (show 0<(1:Nat) by omega)) ?_;simp only [ST.frz,A0.frz,AV.frz,C.frz,Nat.le_refl,List.set_cons_zero,List.set_cons_succ,go_sem,htk,A3,hql])
   (refine Wt ?_;(repeat clear hK K);repeat refine kq fun K hK=>?_)
   (refine Wy hco ?_;intro K1 hK1)
   intro r0 o0 h0
   by_cases ht:Bw x<=262144
   ·rw [cc,if_pos ht] at h0
    obtain ⟨rfl,rfl⟩:=h0
    (refine Wz ?_;clear hK1 K1)
    (refine Cn @Bool.not_true ?_;(repeat clear hK K);repeat refine kq fun K hK=>?_)
    refine WC ?_
    (refine Jb ?_;(repeat clear hK K);repeat refine kq fun K hK=>?_)
    refine WF [0] Tryz.results83 ?_
    refine hend _ _ ?_
    rw [hqe,hxe,cd,if_pos ht]
    exact ⟨rfl,rfl⟩
   rw [cc,if_neg ht] at h0
   obtain ⟨rfl,rfl⟩:=h0
   (refine Wz ?_;clear hK1 K1)
   (refine Cn @Bool.not_false ?_;(repeat clear hK K);repeat refine kq fun K hK=>?_)
   refine WB ?_
   (refine Jb ?_;(repeat clear hK K);repeat refine kq fun K hK=>?_)
   refine WF [0] Tryz.results83 ?_
   refine hend _ _ ?_
   rw [hqe,hxe,cd,if_neg ht]
   exact ⟨rfl,rfl⟩
  have d2:decide ((k:Int)<(m:Int))=true:=by simpa using hlk
  have gL:(X6 L)[k]?=some (.v (.bool (L.getD k false))):=F7 (by rw [gE2,gE1 (by omega)];rfl)
  have hol:=ZM L O k
  have hot:=ZW L O k
  have hsn:Z2 L O (k+1)=R1 (ZE (L.getD k false) k) k (Z2 L O k):=rfl
  rw [hOl] at hol
  generalize Z2 L O k=o at *
  have hrw:=PH o k
  have hgo:o[k]?=some (o.getD k []):=by
   rw [gE2,gE1 (by omega)];rfl
  cases hb:L.getD k false with
  | true=>
   rw [hb] at gL hsn
   have hA:R1 (ZE true k) k o=o.set k (o.getD k []++[(0,(k:Int))]):=rfl
   generalize o.getD k []=oc at *
   (refine Wu @d2 ?_;(repeat clear hK K);repeat refine kq fun K hK=>?_)
   refine WB ?_
   (refine Wu (an @BD (an @hLl @gL)) ?_;(repeat clear hK K);repeat refine kq fun K hK=>?_)
   refine WB ?_
   (refine Cn (an @AB (an (B8 hgo) (an @hol (an @Pl (an @List.length_set.{0} (an @List.set_cons_zero.{0} (an @List.set_cons_succ.{0} (an @List.take_succ_cons.{0} (an @List.take_zero.{0} (an @List.drop_zero.{0} (an @List.length_take.{0} (an @List.length_drop.{0} (an @List.length_append.{0} (an @A2 (an @Ak (an @BA (an @DP (an @Cp (an @Ap (an @Ez (an @BF (an @D8 @DQ)))))))))))))))))))))) ?_;(repeat clear hK K);repeat refine kq fun K hK=>?_)
   have hj6:((Aw o).set k (C.s 3 (oc.length+1)))[k]?=some (.s 3 (oc.length+1)):=by rw [gEc (by rw [AB];omega)]
   have hset6:((Aw o).set k (C.s 3 (oc.length+1))).set k (.o (2,46) (Ao (oc++[(0,(k:Int))])))=Aw (o.set k (oc++[(0,(k:Int))])):=by rw [Pl,C3]
   refine WD ?_
   refine hK _ (k+1) (by omega) (by omega) ?_
   refine Le.trans (AR (r:=⟨46,2,true,Ax (oc++[(0,(k:Int))])⟩) (ri:=⟨42,1,true,(Aw o).set k (C.s 3 (oc.length+1))⟩) (ts:=Ao (oc++[(0,(k:Int))])) 1 k 3 (oc.length+1) (by decide) rfl hj6 rfl rfl (show 0<2 by omega) (by rw [Ap];simp) (Dl _)) ?_
   simp only [hset6,go_sem]
   refine Le.trans (A9 [0,1] rfl rfl) ?_
   (try simp only [List.set_nil,List.take_nil,List.take_zero,List.map_append,go_sem])
   (try simp only [Ch])
   rw [hsn,hA]
   exact WE
  | false=>
   rw [hb] at gL hsn
   have hA:R1 (ZE false k) k o=o:=rfl
   (refine Wu @d2 ?_;(repeat clear hK K);repeat refine kq fun K hK=>?_)
   refine WB ?_
   (refine Wu (an @BD (an @hLl @gL)) ?_;(repeat clear hK K);repeat refine kq fun K hK=>?_)
   refine WC ?_
   (refine Wt ?_;(repeat clear hK K);repeat refine kq fun K hK=>?_)
   refine WD ?_
   refine hK _ (k+1) (by omega) (by omega) ?_
   rw [hsn,hA]
   exact WE
 have d1:decide ((s:Int)<(R.length:Int))=true:=by simpa using hlt
 have hgR:=gE1 hlt
 have hrl:=hr _ (gE6 hlt)
 obtain ⟨hfs,hgs⟩:=hcl s hlt
 have gC:=Am hgs
 have gB:=F7 (hB2 s hlt)
 have hlset:=bc (B:=B) hfs
 have hll:=ZK f m B s
 have gL:(WU (c9 f m B s))[f s]?=some (.v (.bool ((c9 f m B s).getD (f s) false))):=Jf (by rw [gE2,gE1 (by omega)];rfl)
 have htot:=ZQ f m R s hs
 have hto:=Cj hlt
 have htl3:=Hi R (s+1)
 have hbs:=hbd _ (gE6 hlt)
 have htl:R0 f m R (s+1)=X0 f (f s) (R0 f m R s) R[s]:=by
  rw [R0,gE2,hgR,Option.getD_some]
 generalize hrow:R[s]=row at *
 cases hlb:(c9 f m B s).getD (f s) false with
 | true=>
  rw [hlb] at gL hlset
  rw [Bool.true_or] at hlset
  (refine Wu @d1 ?_;(repeat clear hK K);repeat refine kq fun K hK=>?_)
  refine WB ?_
  (refine Cn (an @A3 (an (Ag hgR) (an @A4 (an @hCl (an @gC (an @CM (an @hll (an @gL (an @BD (an @hBl (an @gB (an @Gi (an @hlset (an @A2 @Ak)))))))))))))) ?_;(repeat clear hK K);repeat refine kq fun K hK=>?_)
  refine A8 (fun k:Nat=>{ tm:=[(1,.a (.c (.t 1 (Ab cl)))),(2,.a (.c (.p 0 0))),(4,.a (.c (.p 1 0))),(6,.a (.c (.t 1 (X6 B)))),(7,.a (.c (.s 2 m))),(8,.a (.c (.s 3 m))),(9,.i s),(11,.i (f s)),(40,.a (.c (.t 1 (Ah R)))),(41,.i R.length),(42,.i s),(64,.a (.c (.t 2 (Ao row)))),(65,.i row.length),(66,.i k)],hp:=[.r ⟨25,1,false,[.t 1 (Ah R)]⟩,.r ⟨25,1,false,[.v (.slice none 0 0)]⟩,.r ⟨42,1,true,Aw (X0 f (f s) (R0 f m R s) (row.take k))⟩,.r ⟨4,1,true,WU (c9 f m B (s+1))⟩],n:=130,pin:=0 }) (fun k=>k<=row.length) (fun k=>row.length - k) 0 ?_ ?_ ?_
  ·omega
  ·simp only [List.take_zero,X0,List.foldl_nil]
   exact WE
  rintro k hk K hK
  by_cases hlt3:k<row.length
  rotate_left
  ·have d3:decide ((k:Int)<(row.length:Int))=false:=by simpa using hlt3
   have hke3:row.take k=row:=gE7 (by omega)
   rw [hke3,<- htl]
   (refine Wu @d3 ?_;(repeat clear hK K);repeat refine kq fun K hK=>?_)
   refine WC ?_
   (refine Wx ?_;repeat clear hK K)
   (refine Wt ?_;(repeat clear hK K);repeat refine kq fun K hK=>?_)
   refine WD ?_
   refine hK _ (s+1) (by omega) (by omega) ?_
   exact WE
  have d3:decide ((k:Int)<(row.length:Int))=true:=by simpa using hlt3
  have hat:=AL hlt3
  have hb:=hbs _ (gE6 hlt3)
  have hsn:=ZT f (f s) (R0 f m R s) (row.take k) row[k]
  rw [<- gE8 hlt3] at hsn
  generalize row[k]=a at *
  obtain ⟨e,t⟩:=a
  simp only at hat hb
  obtain ⟨_,_,ht0,ht1⟩:=hb
  obtain ⟨tn,rfl⟩:∃ tn:Nat,t=(tn:Int):=⟨t.toNat,by omega⟩
  have htn:tn<R.length:=by omega
  obtain ⟨hft,hgt⟩:=hcl tn htn
  have gT:=Am hgt
  have hol:(X0 f (f s) (R0 f m R s) (row.take k)).length=m:=by rw [ZL,Y0]
  have hot:=ZP f (f s) (row.take k) (R0 f m R s)
  rw [List.length_take] at hot
  generalize X0 f (f s) (R0 f m R s) (row.take k)=o at *
  have hrw:=PH o (f s)
  have hgo:o[f s]?=some (o.getD (f s) []):=by
   rw [gE2,gE1 (by omega)];rfl
  by_cases hq:e ≠ 0\/f tn ≠ f s
  rotate_left
  ·have hx:ZD f (f s) (e,(tn:Int))=none:=by
    show (if e ≠ 0\/f tn ≠ f s then some (e,(f tn:Int)) else none)=_
    rw [if_neg hq]
   have hA:R1 (ZD f (f s) (e,(tn:Int))) (f s) o=o:=by rw [hx];rfl
   have he:e=0:=Decidable.not_not.1 fun h=>hq (.inl h)
   have hff:f tn=f s:=Decidable.not_not.1 fun h=>hq (.inr h)
   have d4:(e != 0)=false:=by simp [he]
   have d5:((f tn:Int) != (f s:Int))=false:=by simp [hff]
   (refine Wu @d3 ?_;(repeat clear hK K);repeat refine kq fun K hK=>?_)
   refine WB ?_
   (refine Cn (an @hat (an @A2 (an @Ak (an @d4 (an @d5 (an @A4 (an @hCl @gT))))))) ?_;(repeat clear hK K);repeat refine kq fun K hK=>?_)
   refine WC ?_
   (refine Wt ?_;(repeat clear hK K);repeat refine kq fun K hK=>?_)
   refine WD ?_
   refine hK _ (k+1) (by omega) (by omega) ?_
   refine Le.trans (A9 [0,1,2,3] rfl rfl) ?_
   (try simp only [List.set_nil,List.take_nil,List.take_zero,List.map_append,go_sem])
   (try simp only [Cf,Ch])
   rw [hsn,hA]
   exact WE
  have hx:ZD f (f s) (e,(tn:Int))=some (e,(f tn:Int)):=by
   show (if e ≠ 0\/f tn ≠ f s then some (e,(f tn:Int)) else none)=_
   rw [if_pos hq]
  have hA:R1 (ZD f (f s) (e,(tn:Int))) (f s) o=o.set (f s) (o.getD (f s) []++[(e,(f tn:Int))]):=by rw [hx];rfl
  generalize o.getD (f s) []=oc at *
  by_cases he:e=0
  rotate_left
  ·have d4:(e != 0)=true:=by simpa using he
   (refine Wu @d3 ?_;(repeat clear hK K);repeat refine kq fun K hK=>?_)
   refine WB ?_
   (refine Cn (an @hat (an @A2 (an @Ak (an @d4 (an @A4 (an @hCl @gT)))))) ?_;(repeat clear hK K);repeat refine kq fun K hK=>?_)
   refine WB ?_
   (refine Wt ?_;(repeat clear hK K);repeat refine kq fun K hK=>?_)
   (refine AJ [] (.m 0 0 0 (.m 1 0 0 (.m 2 0 0 (.m 3 0 0 (.m 4 0 0 (.m 5 1 15 (.m 6 0 0 (.m 7 1 14 (.m 8 0 0 (.m 9 0 0 (.m 10 1 14 (.m 11 0 0 (.m 12 1 14 (.m 13 0 0 (.a 14 (.a 15 (.m 16 0 0 (.a 17 .e)))))))))))))))))) (by kernel_rfl) (by kernel_rfl) (by intro c st h;simp [Ae,AF,VT] at h) ?_)
   (refine Ww (an @AB (an (B8 hgo) (an @hol (an @A4 (an @hCl @gT))))) ?_;repeat clear hK K)
   (refine Wj rfl rfl ?_;intro K1 hK1;refine Bx rfl ?_;simp only [go_sem];(first | refine hK1 _ ?_ | refine AD (hK1 _ ?_));clear hK1 K1)
   (refine Ga rfl rfl rfl ?_;intro K1 hK1;refine CK rfl rfl rfl rfl (by first | rfl | simp only [CQ,List.getD_cons_zero,List.getD_cons_succ,hne,List.isEmpty_cons,Bool.not_false,Bool.true_and,Bool.and_true,Bool.and_self]) rfl ?_;simp only [go_sem,Cp,A2,Ak,BF,B8 hgo];(first | refine hK1 _ ?_ | refine AD (hK1 _ ?_));clear hK1 K1)
   (refine Ww (an @AB @hol) ?_;repeat clear hK K)
   (refine Wk rfl rfl rfl rfl ?_;intro K1 hK1;refine AP rfl ?_;simp only [go_sem,AB,List.length_set,Pl,hol];(first | refine hK1 _ ?_ | refine AD (hK1 _ ?_));clear hK1 K1)
   refine CL ⟨by simp,by simp,?_⟩
   (try simp only [Ae,AF])
   refine hK _ ?_
   clear hK K
   have hj6:((Aw o).set (f s) (C.s 6 (oc.length+1)))[f s]?=some (.s 6 (oc.length+1)):=by rw [gEc (by rw [AB];omega)]
   have hset6:((Aw o).set (f s) (C.s 6 (oc.length+1))).set (f s) (.o (2,46) (Ao (oc++[(e,(f tn:Int))])))=Aw (o.set (f s) (oc++[(e,(f tn:Int))])):=by rw [Pl,C3]
   refine Au (AR (r:=⟨46,2,true,Ax (oc++[(e,(f tn:Int))])⟩) (ri:=⟨42,1,true,(Aw o).set (f s) (C.s 6 (oc.length+1))⟩) (ts:=Ao (oc++[(e,(f tn:Int))])) 2 (f s) 6 (oc.length+1) (by decide) rfl hj6 rfl rfl (show 0<2 by omega) (by rw [Ap];simp) (Dl _)) ?_
   simp only [hset6,go_sem]
   (refine Wt ?_;(repeat clear hK K);repeat refine kq fun K hK=>?_)
   refine WD ?_
   refine hK _ (k+1) (by omega) (by omega) ?_
   refine Le.trans (A9 [0,1,2,3] rfl rfl) ?_
   (try simp only [List.set_nil,List.take_nil,List.take_zero,List.map_append,go_sem])
   (try simp only [Cf,Ch])
   rw [hsn,hA]
   exact WE
  have d4:(e != 0)=false:=by simp [he]
  have d5:((f tn:Int) != (f s:Int))=true:=by
   have:=hq.resolve_left (by simp [he])
   simp;omega
  (refine Wu @d3 ?_;(repeat clear hK K);repeat refine kq fun K hK=>?_)
  refine WB ?_
  (refine Cn (an @hat (an @A2 (an @Ak (an @d4 (an @d5 (an @A4 (an @hCl @gT))))))) ?_;(repeat clear hK K);repeat refine kq fun K hK=>?_)
  refine WB ?_
  (refine Wt ?_;(repeat clear hK K);repeat refine kq fun K hK=>?_)
  (refine AJ [] (.m 0 0 0 (.m 1 0 0 (.m 2 0 0 (.m 3 0 0 (.m 4 0 0 (.m 5 1 15 (.m 6 0 0 (.m 7 1 14 (.m 8 0 0 (.m 9 0 0 (.m 10 1 14 (.m 11 0 0 (.m 12 1 14 (.m 13 0 0 (.a 14 (.a 15 (.m 16 0 0 (.a 17 .e)))))))))))))))))) (by kernel_rfl) (by kernel_rfl) (by intro c st h;simp [Ae,AF,VT] at h) ?_)
  (refine Ww (an @AB (an (B8 hgo) (an @hol (an @A4 (an @hCl @gT))))) ?_;repeat clear hK K)
  (refine Wj rfl rfl ?_;intro K1 hK1;refine Bx rfl ?_;simp only [go_sem];(first | refine hK1 _ ?_ | refine AD (hK1 _ ?_));clear hK1 K1)
  (refine Ga rfl rfl rfl ?_;intro K1 hK1;refine CK rfl rfl rfl rfl (by first | rfl | simp only [CQ,List.getD_cons_zero,List.getD_cons_succ,hne,List.isEmpty_cons,Bool.not_false,Bool.true_and,Bool.and_true,Bool.and_self]) rfl ?_;simp only [go_sem,Cp,A2,Ak,BF,B8 hgo];(first | refine hK1 _ ?_ | refine AD (hK1 _ ?_));clear hK1 K1)
  (refine Ww (an @AB @hol) ?_;repeat clear hK K)
  (refine Wk rfl rfl rfl rfl ?_;intro K1 hK1;refine AP rfl ?_;simp only [go_sem,AB,List.length_set,Pl,hol];(first | refine hK1 _ ?_ | refine AD (hK1 _ ?_));clear hK1 K1)
  refine CL ⟨by simp,by simp,?_⟩
  (try simp only [Ae,AF])
  refine hK _ ?_
  clear hK K
  have hj6:((Aw o).set (f s) (C.s 6 (oc.length+1)))[f s]?=some (.s 6 (oc.length+1)):=by rw [gEc (by rw [AB];omega)]
  have hset6:((Aw o).set (f s) (C.s 6 (oc.length+1))).set (f s) (.o (2,46) (Ao (oc++[(e,(f tn:Int))])))=Aw (o.set (f s) (oc++[(e,(f tn:Int))])):=by rw [Pl,C3]
  refine Au (AR (r:=⟨46,2,true,Ax (oc++[(e,(f tn:Int))])⟩) (ri:=⟨42,1,true,(Aw o).set (f s) (C.s 6 (oc.length+1))⟩) (ts:=Ao (oc++[(e,(f tn:Int))])) 2 (f s) 6 (oc.length+1) (by decide) rfl hj6 rfl rfl (show 0<2 by omega) (by rw [Ap];simp) (Dl _)) ?_
  simp only [hset6,go_sem]
  (refine Wt ?_;(repeat clear hK K);repeat refine kq fun K hK=>?_)
  refine WD ?_
  refine hK _ (k+1) (by omega) (by omega) ?_
  refine Le.trans (A9 [0,1,2,3] rfl rfl) ?_
  (try simp only [List.set_nil,List.take_nil,List.take_zero,List.map_append,go_sem])
  (try simp only [Cf,Ch])
  rw [hsn,hA]
  exact WE
 | false=>
  rw [hlb] at gL hlset
  rw [Bool.false_or] at hlset
  (refine Wu @d1 ?_;(repeat clear hK K);repeat refine kq fun K hK=>?_)
  refine WB ?_
  (refine Cn (an @A3 (an (Ag hgR) (an @A4 (an @hCl (an @gC (an @CM (an @hll (an @gL (an @BD (an @hBl (an @gB (an @Gi (an @hlset (an @A2 @Ak)))))))))))))) ?_;(repeat clear hK K);repeat refine kq fun K hK=>?_)
  refine A8 (fun k:Nat=>{ tm:=[(1,.a (.c (.t 1 (Ab cl)))),(2,.a (.c (.p 0 0))),(4,.a (.c (.p 1 0))),(6,.a (.c (.t 1 (X6 B)))),(7,.a (.c (.s 2 m))),(8,.a (.c (.s 3 m))),(9,.i s),(11,.i (f s)),(40,.a (.c (.t 1 (Ah R)))),(41,.i R.length),(42,.i s),(64,.a (.c (.t 2 (Ao row)))),(65,.i row.length),(66,.i k)],hp:=[.r ⟨25,1,false,[.t 1 (Ah R)]⟩,.r ⟨25,1,false,[.v (.slice none 0 0)]⟩,.r ⟨42,1,true,Aw (X0 f (f s) (R0 f m R s) (row.take k))⟩,.r ⟨4,1,true,WU (c9 f m B (s+1))⟩],n:=130,pin:=0 }) (fun k=>k<=row.length) (fun k=>row.length - k) 0 ?_ ?_ ?_
  ·omega
  ·simp only [List.take_zero,X0,List.foldl_nil]
   exact WE
  rintro k hk K hK
  by_cases hlt3:k<row.length
  rotate_left
  ·have d3:decide ((k:Int)<(row.length:Int))=false:=by simpa using hlt3
   have hke3:row.take k=row:=gE7 (by omega)
   rw [hke3,<- htl]
   (refine Wu @d3 ?_;(repeat clear hK K);repeat refine kq fun K hK=>?_)
   refine WC ?_
   (refine Wx ?_;repeat clear hK K)
   (refine Wt ?_;(repeat clear hK K);repeat refine kq fun K hK=>?_)
   refine WD ?_
   refine hK _ (s+1) (by omega) (by omega) ?_
   exact WE
  have d3:decide ((k:Int)<(row.length:Int))=true:=by simpa using hlt3
  have hat:=AL hlt3
  have hb:=hbs _ (gE6 hlt3)
  have hsn:=ZT f (f s) (R0 f m R s) (row.take k) row[k]
  rw [<- gE8 hlt3] at hsn
  generalize row[k]=a at *
  obtain ⟨e,t⟩:=a
  simp only at hat hb
  obtain ⟨_,_,ht0,ht1⟩:=hb
  obtain ⟨tn,rfl⟩:∃ tn:Nat,t=(tn:Int):=⟨t.toNat,by omega⟩
  have htn:tn<R.length:=by omega
  obtain ⟨hft,hgt⟩:=hcl tn htn
  have gT:=Am hgt
  have hol:(X0 f (f s) (R0 f m R s) (row.take k)).length=m:=by rw [ZL,Y0]
  have hot:=ZP f (f s) (row.take k) (R0 f m R s)
  rw [List.length_take] at hot
  generalize X0 f (f s) (R0 f m R s) (row.take k)=o at *
  have hrw:=PH o (f s)
  have hgo:o[f s]?=some (o.getD (f s) []):=by
   rw [gE2,gE1 (by omega)];rfl
  by_cases hq:e ≠ 0\/f tn ≠ f s
  rotate_left
  ·have hx:ZD f (f s) (e,(tn:Int))=none:=by
    show (if e ≠ 0\/f tn ≠ f s then some (e,(f tn:Int)) else none)=_
    rw [if_neg hq]
   have hA:R1 (ZD f (f s) (e,(tn:Int))) (f s) o=o:=by rw [hx];rfl
   have he:e=0:=Decidable.not_not.1 fun h=>hq (.inl h)
   have hff:f tn=f s:=Decidable.not_not.1 fun h=>hq (.inr h)
   have d4:(e != 0)=false:=by simp [he]
   have d5:((f tn:Int) != (f s:Int))=false:=by simp [hff]
   (refine Wu @d3 ?_;(repeat clear hK K);repeat refine kq fun K hK=>?_)
   refine WB ?_
   (refine Cn (an @hat (an @A2 (an @Ak (an @d4 (an @d5 (an @A4 (an @hCl @gT))))))) ?_;(repeat clear hK K);repeat refine kq fun K hK=>?_)
   refine WC ?_
   (refine Wt ?_;(repeat clear hK K);repeat refine kq fun K hK=>?_)
   refine WD ?_
   refine hK _ (k+1) (by omega) (by omega) ?_
   refine Le.trans (A9 [0,1,2,3] rfl rfl) ?_
   (try simp only [List.set_nil,List.take_nil,List.take_zero,List.map_append,go_sem])
   (try simp only [Cf,Ch])
   rw [hsn,hA]
   exact WE
  have hx:ZD f (f s) (e,(tn:Int))=some (e,(f tn:Int)):=by
   show (if e ≠ 0\/f tn ≠ f s then some (e,(f tn:Int)) else none)=_
   rw [if_pos hq]
  have hA:R1 (ZD f (f s) (e,(tn:Int))) (f s) o=o.set (f s) (o.getD (f s) []++[(e,(f tn:Int))]):=by rw [hx];rfl
  generalize o.getD (f s) []=oc at *
  by_cases he:e=0
  rotate_left
  ·have d4:(e != 0)=true:=by simpa using he
   (refine Wu @d3 ?_;(repeat clear hK K);repeat refine kq fun K hK=>?_)
   refine WB ?_
   (refine Cn (an @hat (an @A2 (an @Ak (an @d4 (an @A4 (an @hCl @gT)))))) ?_;(repeat clear hK K);repeat refine kq fun K hK=>?_)
   refine WB ?_
   (refine Wt ?_;(repeat clear hK K);repeat refine kq fun K hK=>?_)
   (refine AJ [] (.m 0 0 0 (.m 1 0 0 (.m 2 0 0 (.m 3 0 0 (.m 4 0 0 (.m 5 1 15 (.m 6 0 0 (.m 7 1 14 (.m 8 0 0 (.m 9 0 0 (.m 10 1 14 (.m 11 0 0 (.m 12 1 14 (.m 13 0 0 (.a 14 (.a 15 (.m 16 0 0 (.a 17 .e)))))))))))))))))) (by kernel_rfl) (by kernel_rfl) (by intro c st h;simp [Ae,AF,VT] at h) ?_)
   (refine Ww (an @AB (an (B8 hgo) (an @hol (an @A4 (an @hCl @gT))))) ?_;repeat clear hK K)
   (refine Wj rfl rfl ?_;intro K1 hK1;refine Bx rfl ?_;simp only [go_sem];(first | refine hK1 _ ?_ | refine AD (hK1 _ ?_));clear hK1 K1)
   (refine Ga rfl rfl rfl ?_;intro K1 hK1;refine CK rfl rfl rfl rfl (by first | rfl | simp only [CQ,List.getD_cons_zero,List.getD_cons_succ,hne,List.isEmpty_cons,Bool.not_false,Bool.true_and,Bool.and_true,Bool.and_self]) rfl ?_;simp only [go_sem,Cp,A2,Ak,BF,B8 hgo];(first | refine hK1 _ ?_ | refine AD (hK1 _ ?_));clear hK1 K1)
   (refine Ww (an @AB @hol) ?_;repeat clear hK K)
   (refine Wk rfl rfl rfl rfl ?_;intro K1 hK1;refine AP rfl ?_;simp only [go_sem,AB,List.length_set,Pl,hol];(first | refine hK1 _ ?_ | refine AD (hK1 _ ?_));clear hK1 K1)
   refine CL ⟨by simp,by simp,?_⟩
   (try simp only [Ae,AF])
   refine hK _ ?_
   clear hK K
   have hj6:((Aw o).set (f s) (C.s 6 (oc.length+1)))[f s]?=some (.s 6 (oc.length+1)):=by rw [gEc (by rw [AB];omega)]
   have hset6:((Aw o).set (f s) (C.s 6 (oc.length+1))).set (f s) (.o (2,46) (Ao (oc++[(e,(f tn:Int))])))=Aw (o.set (f s) (oc++[(e,(f tn:Int))])):=by rw [Pl,C3]
   refine Au (AR (r:=⟨46,2,true,Ax (oc++[(e,(f tn:Int))])⟩) (ri:=⟨42,1,true,(Aw o).set (f s) (C.s 6 (oc.length+1))⟩) (ts:=Ao (oc++[(e,(f tn:Int))])) 2 (f s) 6 (oc.length+1) (by decide) rfl hj6 rfl rfl (show 0<2 by omega) (by rw [Ap];simp) (Dl _)) ?_
   simp only [hset6,go_sem]
   (refine Wt ?_;(repeat clear hK K);repeat refine kq fun K hK=>?_)
   refine WD ?_
   refine hK _ (k+1) (by omega) (by omega) ?_
   refine Le.trans (A9 [0,1,2,3] rfl rfl) ?_
   (try simp only [List.set_nil,List.take_nil,List.take_zero,List.map_append,go_sem])
   (try simp only [Cf,Ch])
   rw [hsn,hA]
   exact WE
  have d4:(e != 0)=false:=by simp [he]
  have d5:((f tn:Int) != (f s:Int))=true:=by
   have:=hq.resolve_left (by simp [he])
   simp;omega
  (refine Wu @d3 ?_;(repeat clear hK K);repeat refine kq fun K hK=>?_)
  refine WB ?_
  (refine Cn (an @hat (an @A2 (an @Ak (an @d4 (an @d5 (an @A4 (an @hCl @gT))))))) ?_;(repeat clear hK K);repeat refine kq fun K hK=>?_)
  refine WB ?_
  (refine Wt ?_;(repeat clear hK K);repeat refine kq fun K hK=>?_)
  (refine AJ [] (.m 0 0 0 (.m 1 0 0 (.m 2 0 0 (.m 3 0 0 (.m 4 0 0 (.m 5 1 15 (.m 6 0 0 (.m 7 1 14 (.m 8 0 0 (.m 9 0 0 (.m 10 1 14 (.m 11 0 0 (.m 12 1 14 (.m 13 0 0 (.a 14 (.a 15 (.m 16 0 0 (.a 17 .e)))))))))))))))))) (by kernel_rfl) (by kernel_rfl) (by intro c st h;simp [Ae,AF,VT] at h) ?_)
  (refine Ww (an @AB (an (B8 hgo) (an @hol (an @A4 (an @hCl @gT))))) ?_;repeat clear hK K)
  (refine Wj rfl rfl ?_;intro K1 hK1;refine Bx rfl ?_;simp only [go_sem];(first | refine hK1 _ ?_ | refine AD (hK1 _ ?_));clear hK1 K1)
  (refine Ga rfl rfl rfl ?_;intro K1 hK1;refine CK rfl rfl rfl rfl (by first | rfl | simp only [CQ,List.getD_cons_zero,List.getD_cons_succ,hne,List.isEmpty_cons,Bool.not_false,Bool.true_and,Bool.and_true,Bool.and_self]) rfl ?_;simp only [go_sem,Cp,A2,Ak,BF,B8 hgo];(first | refine hK1 _ ?_ | refine AD (hK1 _ ?_));clear hK1 K1)
  (refine Ww (an @AB @hol) ?_;repeat clear hK K)
  (refine Wk rfl rfl rfl rfl ?_;intro K1 hK1;refine AP rfl ?_;simp only [go_sem,AB,List.length_set,Pl,hol];(first | refine hK1 _ ?_ | refine AD (hK1 _ ?_));clear hK1 K1)
  refine CL ⟨by simp,by simp,?_⟩
  (try simp only [Ae,AF])
  refine hK _ ?_
  clear hK K
  have hj6:((Aw o).set (f s) (C.s 6 (oc.length+1)))[f s]?=some (.s 6 (oc.length+1)):=by rw [gEc (by rw [AB];omega)]
  have hset6:((Aw o).set (f s) (C.s 6 (oc.length+1))).set (f s) (.o (2,46) (Ao (oc++[(e,(f tn:Int))])))=Aw (o.set (f s) (oc++[(e,(f tn:Int))])):=by rw [Pl,C3]
  refine Au (AR (r:=⟨46,2,true,Ax (oc++[(e,(f tn:Int))])⟩) (ri:=⟨42,1,true,(Aw o).set (f s) (C.s 6 (oc.length+1))⟩) (ts:=Ao (oc++[(e,(f tn:Int))])) 2 (f s) 6 (oc.length+1) (by decide) rfl hj6 rfl rfl (show 0<2 by omega) (by rw [Ap];simp) (Dl _)) ?_
  simp only [hset6,go_sem]
  (refine Wt ?_;(repeat clear hK K);repeat refine kq fun K hK=>?_)
  refine WD ?_
  refine hK _ (k+1) (by omega) (by omega) ?_
  refine Le.trans (A9 [0,1,2,3] rfl rfl) ?_
  (try simp only [List.set_nil,List.take_nil,List.take_zero,List.map_append,go_sem])
  (try simp only [Cf,Ch])
  rw [hsn,hA]
  exact WE
def dy (x:List (List Ar)) (r:AV) (o:List Ob):Prop:=o=[.r ⟨25,1,false,[.t 1 (Ah x)]⟩]/\r=.tup [.g [.t 1 (Ah x)],.c (.v (.int .i64 0))]
theorem dh (R:List (List Ar)) (cl:List Int) (hv:Bv R=true) (hC:Zy cl R.length=true) (hn:R.length<=100) (ht:Bw R<=1000) (hr:∀ r∈R,r.length<=1000000):FC Tryz.prog 49 [B7 R,As cl] [] (fun r o=>∃ B,DvL R B/\dy (BT (qR R cl B)).1 r o):=by
 refine A6 Tryz.func49 rfl (by rw [Tryz.ntmps49];simp) ?_
 rw [Tryz.ntmps49]
 simp only [Bf,B7,As]
 (refine Wt ?_;(repeat clear hK K);repeat refine kq fun K hK=>?_)
 (refine Wy (bG R cl hv hC (by omega) hr) ?_;intro K1 hK1)
 intro r0 o0 ⟨B,hB,h0⟩
 have hlo:BE R=true:=gEg (gE4 hv).1
 obtain ⟨b1,b2,b3⟩:=bC (B:=B) hlo hC
 have hm1:1<=bZ cl:=by have:=((Y2 hC).2.2.1 0 (gE4 hlo).1).1;omega
 have hmn:=(Y2 hC).2.1
 have hlq:BE (qR R cl B)=true:=gEg ⟨by omega,by show (qR R cl B).length<=16384;omega,by show Bw (qR R cl B)<=262144;omega,b2⟩
 have htX:=B2 hlq
 rw [cd,if_pos (by omega)] at h0
 have hend:∀ r o,dy (BT (qR R cl B)).1 r o->∃ B,DvL R B/\dy (BT (qR R cl B)).1 r o:=fun r o h=>⟨B,hB,h⟩
 generalize (BT (qR R cl B)).1=x at *
 obtain ⟨rfl,rfl⟩:=h0
 (refine Wz ?_;clear hK1 K1)
 (refine Jb ?_;(repeat clear hK K);repeat refine kq fun K hK=>?_)
 refine WF [1] Tryz.results49 ?_
 exact hend _ _ ⟨rfl,rfl⟩
set_option maxHeartbeats 1000000 in
theorem cD (R:List (List Ar)) (hv:Bv R=true) (hn:R.length<=100) (ht:Bw R<=1000) (hr:∀ r∈R,r.length<=1000000):FC Tryz.prog 24 [B7 R] [] (fun r o=>∃ c B,DlC R c/\Nrm R.length c/\DvL R B/\dy (BT (qR R c B)).1 r o):=by
 refine A6 Tryz.func24 rfl (by rw [Tryz.ntmps24];simp) ?_
 rw [Tryz.ntmps24]
 simp only [Bf,B7]
 (refine Wt ?_;(repeat clear hK K);repeat refine kq fun K hK=>?_)
 (refine Bz [] [(0,1,3),(1,1,2),(2,2,0),(3,2,0),(4,0,0),(5,0,0),(6,2,0),(7,2,0)] (by kernel_rfl) (by kernel_rfl) (by intro c st h;simp [Ae,AF,VT] at h) ?_)
 (refine Wr ?_;repeat clear hK K)
 (refine Wf rfl rfl ?_;intro K1 hK1;refine AZ ?_;refine xv [] (cC R hv hn ht hr) ?_ ?_)
 ·rintro _ _ ⟨_,_,_,rfl,rfl⟩ i o hi hl;simp at hl
 rintro _ _ ⟨c,hc,hN,rfl,rfl⟩
 (refine Wz ?_;clear hK1 K1)
 (refine Wr ?_;repeat clear hK K)
 (refine Wf rfl rfl ?_;intro K1 hK1;refine AZ ?_;refine xv [] (dh R c hv hN.num hn ht hr) ?_ ?_)
 ·rintro _ _ ⟨_,_,rfl,rfl⟩ i o hi hl;simp at hl
 rintro _ _ ⟨B,hB,rfl,rfl⟩
 have hend:∀ r o,dy (BT (qR R c B)).1 r o->∃ c B,DlC R c/\Nrm R.length c/\DvL R B/\dy (BT (qR R c B)).1 r o:=fun r o h=>⟨c,B,hc,hN,hB,h⟩
 generalize (BT (qR R c B)).1=x at *
 (refine Wz ?_;clear hK1 K1)
 (refine Wr ?_;repeat clear hK K)
 (refine Wg rfl rfl rfl ?_;intro K1 hK1;refine AP rfl ?_;simp only [go_sem,ST.put,DJ,A0.cells];(first | refine hK1 _ ?_ | refine AD (hK1 _ ?_));clear hK1 K1)
 (refine Wg rfl rfl rfl ?_;intro K1 hK1;refine AP rfl ?_;simp only [go_sem];(first | refine hK1 _ ?_ | refine AD (hK1 _ ?_));clear hK1 K1)
 (refine Wr ?_;repeat clear hK K)
 (refine Wt ?_;(repeat clear hK K);repeat refine kq fun K hK=>?_)
 refine WF [1] Tryz.results24 ?_
 exact hend _ _ ⟨rfl,rfl⟩
def sK:List (List Ar):=[[(0,1)],[(2,2)],[]]
def sQ:List (List Ar):=[[(2,1)],[]]
theorem ZI:Bv sK=true:=by kernel_rfl
theorem aX:∀ v w,w∈WP true sK v->v=0/\w=1
 | 0,w,h=>by have e:WP true sK 0=[1]:=rfl;rw [e] at h;simp at h;omega
 | 1,w,h=>by have e:WP true sK 1=[]:=rfl;rw [e] at h;simp at h
 | 2,w,h=>by have e:WP true sK 2=[]:=rfl;rw [e] at h;simp at h
 | n+3,w,h=>by have e:WP true sK (n+3)=[]:=rfl;rw [e] at h;simp at h
theorem aQ {v u:Nat} (h:Rc (WP true sK) v u):u=v\/(v=0/\u=1):=by
 induction h with
 | refl=>exact .inl rfl
 | tail _ h2 ih=>have:=aX _ _ h2;omega
theorem bN (s:Nat):¬ Dv sK s:=by
 rintro ⟨g,_,w,hw,hr⟩
 have:=aX _ _ hw
 have:=aQ hr
 omega
theorem bO:DvL sK [false,false,false]:=by
 refine ⟨rfl,fun s hs=>⟨fun h=>?_,fun h=>absurd h (bN s)⟩⟩
 match s,hs with
 | 0,_=>simp at h
 | 1,_=>simp at h
 | 2,_=>simp at h
theorem bQ:(BT (qR sK [0,0,1] [false,false,false])).1=sQ:=by kernel_rfl
theorem bj:Rc (WP true sK) 0 1:=.tail (.refl 0) (show 1∈[1] by simp)
def sk (s:Nat):Nat:=if s<=1 then 0 else 1
theorem dj:MtK sK sk sK sk:=by
 intro s t hs ht e
 have hs:s<3:=hs
 have ht:t<3:=ht
 refine ⟨fun d=>absurd d (bN s),fun a ha=>?_⟩
 by_cases he:s=t
 ·subst he;exact ⟨a,ha,rfl,rfl⟩
 have h2:(s=0/\t=1)\/(s=1/\t=0):=by
  unfold sk at e
  split at e <;> split at e <;> omega
 rcases (Hp ZI hs).1 ha with ⟨h0,u,hu,hr⟩ | ⟨h0,v,hr,hv⟩
 ·have hu2:=aQ hr
  have hk:sk a.2.toNat=0:=by rw [hu];unfold sk;rw [if_pos (by simp only [Int.toNat_natCast];omega)]
  have hr1:Rc (WP true sK) t 1:=by
   rcases h2 with ⟨_,rfl⟩ | ⟨_,rfl⟩
   ·exact .refl 1
   exact bj
  exact ⟨(0,1),(Hp ZI ht).2 (.inl ⟨rfl,1,rfl,hr1⟩),h0.symm,by rw [hk];rfl⟩
 have hv2:=aQ hr
 have hv1:v=1:=by
  have:v=0\/v=1:=by omega
  rcases this with rfl | rfl
  rotate_left
  ·rfl
  have e0:sK.getD 0 []=[(0,1)]:=rfl
  rw [e0] at hv
  simp at hv
  exact absurd (by rw [hv]) h0
 subst hv1
 have hr1:Rc (WP true sK) t 1:=by
  rcases h2 with ⟨_,rfl⟩ | ⟨_,rfl⟩
  ·exact .refl 1
  exact bj
 exact ⟨a,(Hp ZI ht).2 (.inr ⟨h0,1,hr1,hv⟩),rfl,rfl⟩
theorem bP {c:List Int} (hc:DlC sK c) (hN:Nrm sK.length c):c=[0,0,1]:=by
 have h01:c.getD 0 0=c.getD 1 0:=dj.le ZI (by decide) hc (by decide) (by decide) rfl
 have h02:c.getD 0 0 ≠ c.getD 2 0:=fun h=>by
  obtain ⟨_,q⟩:=DlC.key ZI (by decide) hc 0 2 (by decide) (by decide) h
  obtain ⟨b,hb,e1,_⟩:=q (2,2) ((Hp ZI (by decide)).2 (.inr ⟨by decide,1,bj,by show (2,2)∈[((2:Int),(2:Int))];simp⟩))
  rcases (Hp ZI (by decide)).1 hb with ⟨h0,_⟩ | ⟨h0,t,hr,ht⟩
  ·rw [h0] at e1;simp at e1
  have:=aQ hr
  have:t=2:=by omega
  subst this
  have e0:sK.getD 2 []=[]:=rfl
  rw [e0] at ht
  simp at ht
 have hs3:∀ s,s<3->(c.getD s 0=c.getD 0 0/\sk s=0)\/(c.getD s 0=c.getD 2 0/\sk s=1)
  | 0,_=>.inl ⟨rfl,rfl⟩
  | 1,_=>.inl ⟨h01.symm,rfl⟩
  | 2,_=>.inr ⟨rfl,rfl⟩
 have e:Xh (fun s=>c.getD s 0) 3=Xh sk 3:=Ny 3 fun s t hs ht=>by
  rcases hs3 s hs with ⟨a1,a2⟩ | ⟨a1,a2⟩ <;> rcases hs3 t ht with ⟨b1,b2⟩ | ⟨b1,b2⟩ <;> rw [a1,b1,a2,b2]
  ·exact iff_of_true rfl rfl
  ·exact iff_of_false h02 (by decide)
  ·exact iff_of_false h02.symm (by decide)
  exact iff_of_true rfl rfl
 have h3:(Xh (fun s=>c.getD s 0) 3).1=c:=hN
 rw [<- h3,e]
 rfl
theorem bJ : FC Tryz.prog 24 [B7 sK] [] (fun r o => o = [.r ⟨25, 1, false, [.t 1 (Ah sQ)]⟩] /\ r = .tup [.g [.t 1 (Ah sQ)], .c (.v (.int .i64 0))]) :=
 (cD sK ZI (by decide) (by decide) (by decide)).mono fun r o ⟨c, B, hc, hN, hB, h⟩ => by
  rw [bP hc hN, hB.uniq bO, bQ] at h
  exact h
theorem bK : FC Tryz.prog 23 [B7 sK] [] (fun r o => o = [] /\ r = As [0, 0, 1]) :=
 (cC sK ZI (by decide) (by decide) (by decide)).mono fun r o ⟨c, hc, hN, h1, h2⟩ => by
  rw [bP hc hN] at h2
  exact ⟨h1, h2⟩
set_option maxHeartbeats 1000000 in
theorem bm:FC Tryz.prog 50 [] [] (fun r o=>o=[.r ⟨25,1,false,[.t 1 (Ah sK)]⟩]/\r=B7 sK):=by
 refine A6 Tryz.func50 rfl (by rw [Tryz.ntmps50];simp) ?_
 rw [Tryz.ntmps50]
 simp only [Bf]
 (refine Jb ?_;(repeat clear hK K);repeat refine kq fun K hK=>?_)
 refine Au (AR (r:=⟨46,2,true,Ax [(0,1)]⟩) (ts:=Ao [(0,1)]) 3 0 1 1 (by decide) rfl rfl rfl rfl (show 0<2 by omega) rfl (Dl _)) ?_
 simp only [go_sem]
 refine Au (AR (r:=⟨46,2,true,Ax [(2,2)]⟩) (ts:=Ao [(2,2)]) 3 1 2 1 (by decide) rfl rfl rfl rfl (show 0<2 by omega) rfl (Dl _)) ?_
 simp only [go_sem]
 refine Au (Nk 3 [2,2,2] rfl) ?_
 simp only [X5,VX,go_sem]
 refine Au (AR (r:=⟨42,1,true,AO sK⟩) (ri:=⟨25,1,false,[.s 3 3]⟩) (ts:=Ah sK) 0 0 3 3 (by decide) rfl rfl rfl rfl (show 0<1 by omega) rfl (CZ _)) ?_
 simp only [go_sem]
 refine Au (Cm 0 rfl) ?_
 simp only [VX,go_sem]
 ((try refine Av ?_);(try simp only [Ae,AF]);refine B6 (A9 [0] rfl rfl) ?_;(try simp only [List.set_nil,List.take_nil,List.take_zero,List.map_append,go_sem]);((try refine Av ?_);(try refine Aa ?_);(try simp only [Ae,AF]);refine Bj (by first | exact .inl rfl | exact .inr rfl) rfl ?_;simp only [VU,Dy,Du,DL,Tryz.results50,go_sem,true_and,and_true,B7]))
set_option maxHeartbeats 2000000 in
theorem cu:FC Tryz.prog 25 [] [] (fun r _=>r=.b true):=by
 refine A6 Tryz.func25 rfl (by rw [Tryz.ntmps25];simp) ?_
 rw [Tryz.ntmps25]
 simp only [Bf]
 have hcn:=bm
 have hsd:=bJ
 have hcl:=bK
 have hsi:=Qz [0,0,1] [0,0,1] (by decide) (by decide)
 have hsm:=JC sQ (by decide) (by decide)
 simp only [B7,As] at hcn hsd hcl hsi hsm
 (refine Wt ?_;(repeat clear hK K);repeat refine kq fun K hK=>?_)
 (refine Wy hcn ?_;intro K1 hK1)
 rintro _ _ ⟨rfl,rfl⟩
 (refine Wz ?_;clear hK1 K1)
 (refine Wt ?_;(repeat clear hK K);repeat refine kq fun K hK=>?_)
 (refine Wy hsd ?_;intro K1 hK1)
 rintro _ _ ⟨rfl,rfl⟩
 (refine Wz ?_;clear hK1 K1)
 (refine Jb ?_;(repeat clear hK K);repeat refine kq fun K hK=>?_)
 (refine BV rfl rfl (by simp only [go_sem] <;> rfl) ?_;intro K1 hK1;refine (Bb (ids:=[]) (hcn) rfl rfl (by simp only [go_sem]) (by kernel_rfl) (by (simp only [List.append_nil,go_sem]) <;> rfl) ?_).stp)
 rintro _ _ ⟨rfl,rfl⟩
 (refine Wz ?_;clear hK1 K1)
 (refine Wt ?_;(repeat clear hK K);repeat refine kq fun K hK=>?_)
 (refine BV rfl rfl (by simp only [go_sem] <;> rfl) ?_;intro K1 hK1;refine (Bb (ids:=[]) (hcl) rfl rfl (by simp only [go_sem]) (by kernel_rfl) (by (simp only [List.append_nil,go_sem]) <;> rfl) ?_).stp)
 rintro _ _ ⟨rfl,rfl⟩
 (refine Wz ?_;clear hK1 K1)
 (refine Jb ?_;(repeat clear hK K);repeat refine kq fun K hK=>?_)
 (refine BS (Bg (r:=⟨3,1,true,A7 [0,0,1]⟩) 4 (Ab [0,0,1]) rfl (EM _) (show 0<(1:Nat) by omega)) ?_;simp only [ST.frz,A0.frz,AV.frz,C.frz,Nat.le_refl,List.set_cons_zero,List.set_cons_succ,go_sem,show (Ab [0,0,1]).take 3=Ab [0,0,1] from rfl,show (if 3<=(Ab [0,0,1]).length then C.t 1 (Ab [0,0,1]) else C.u)=C.t 1 (Ab [0,0,1]) from rfl])
 (refine BV rfl rfl (by simp only [go_sem] <;> rfl) ?_;intro K1 hK1;refine (Bb (ids:=[]) (hsi) rfl rfl (by simp only [go_sem]) (by kernel_rfl) (by (simp only [List.append_nil,go_sem]) <;> rfl) ?_).stp)
 rintro _ _ ⟨rfl,rfl⟩
 (refine Wz ?_;clear hK1 K1)
 (refine Jb ?_;(repeat clear hK K);repeat refine kq fun K hK=>?_)
 refine BS (AR (r:=⟨46,2,true,Ax [(2,1)]⟩) (ts:=Ao [(2,1)]) 6 0 5 1 (by decide) rfl rfl rfl rfl (show 0<2 by omega) rfl (Dl _)) ?_
 simp only [go_sem]
 refine BS (Nk 6 [2,2] rfl) ?_
 simp only [X5,VX,go_sem]
 (refine BS (Bg (r:=⟨42,1,true,AO sQ⟩) 6 (Ah sQ) rfl (CZ _) (show 0<(1:Nat) by omega)) ?_;simp only [ST.frz,A0.frz,AV.frz,C.frz,Nat.le_refl,List.set_cons_zero,List.set_cons_succ,go_sem,show (Ah sQ).take 2=Ah sQ from rfl,show (if 2<=(Ah sQ).length then C.t 1 (Ah sQ) else C.u)=C.t 1 (Ah sQ) from rfl])
 (refine BV rfl rfl (by simp only [go_sem] <;> rfl) ?_;intro K1 hK1;refine (Bb (ids:=[]) (hsm) rfl rfl (by simp only [go_sem]) (by kernel_rfl) (by (simp only [List.append_nil,go_sem]) <;> rfl) ?_).stp)
 rintro _ _ ⟨rfl,rfl⟩
 (refine Wz ?_;clear hK1 K1)
 (refine Wt ?_;(repeat clear hK K);repeat refine kq fun K hK=>?_)
 exact M6 Tryz.results25
theorem cP (T : List Int) (hT : TpOk T) (a0 : Nat) (ha : a0 <= 500000) :
  FC Tryz.prog 18 [.a (.c (.p 0 0)), .i 8] [tape T a0] (fun r o => ∃ (a' : Nat) (R : List (List Ar)), (o = [tape T a', Kv R] /\ r = B7 R) /\ Bv R = true /\ R.length <= 8 /\ Bw R <= 200 /\ ∀ r ∈ R, r.length <= 1000000) :=
 (bD T hT a0 8 (by omega) (by omega) (by omega)).mono fun r o ⟨a', R, h0, h1, h2, h3, h4, h5⟩ => by
  obtain ⟨q1, q2, q3⟩ := Rg h5 rfl h3 (by omega) (by omega)
  exact ⟨a', R, ⟨h0, h1⟩, q1, h4, q2, fun r hr => by have := q3 r hr; omega⟩
set_option maxHeartbeats 8000000 in
theorem cE (T:List Int) (hT:TpOk T):FC Tryz.prog 6 [As T] [] (fun r _=>r=.b true):=by
 refine A6 Tryz.func6 rfl (by rw [Tryz.ntmps6];simp) ?_
 rw [Tryz.ntmps6]
 simp only [Bf,As]
 (repeat (first | (refine AC ?_;intro K hK) | refine Aj ?_ | refine Ad ?_ | (refine B5 rfl rfl ?_;intro K1 hK1;simp only [go_sem];(first | refine hK1 _ ?_ | refine AD (hK1 _ ?_));clear hK1 K1) | ((first | refine Aa ?_ | refine Al ?_);refine hK _ ?_;clear hK K)))
 (refine Ai rfl ?_;intro K1 hK1;refine (Bb (ids:=[]) (TV T) rfl rfl (by simp only [go_sem]) (by kernel_rfl) (by (simp only [List.append_nil,go_sem]) <;> rfl) ?_).stp)
 rintro _ _ ⟨rfl,rfl⟩
 (simp only [As,Bl,tape,List.append_nil,List.nil_append,List.length_map,go_sem];refine hK1 _ ?_;clear hK1 K1)
 (repeat (first | (refine AC ?_;intro K hK) | refine Aj ?_ | refine Ad ?_ | (refine B5 rfl rfl ?_;intro K1 hK1;simp only [go_sem];(first | refine hK1 _ ?_ | refine AD (hK1 _ ?_));clear hK1 K1) | ((first | refine Aa ?_ | refine Al ?_);refine hK _ ?_;clear hK K)))
 (refine Ai rfl ?_;intro K1 hK1;refine AH (ids:=[]) [0] (cP T hT 0 (by omega)) rfl rfl (by simp only [go_sem]) (by first | assumption | kernel_rfl) rfl rfl (by (simp only [List.map_append,List.append_nil,go_sem]) <;> rfl) (by (simp only [VS,tape,go_sem]) <;> rfl) ?_ ?_)
 ·rintro _ _ ⟨_,_,⟨rfl,rfl⟩,_⟩;rfl
 rintro _ _ ⟨a1,R,⟨rfl,rfl⟩,hv,hRn,hRt,hRr⟩
 (simp only [As,Bl,tape,Kv,B7,List.append_nil,List.nil_append,List.length_map,go_sem];refine hK1 _ ?_;clear hK1 K1)
 (repeat (first | (refine AC ?_;intro K hK) | refine Aj ?_ | refine Ad ?_ | (refine B5 rfl rfl ?_;intro K1 hK1;simp only [go_sem,ST.put,DJ,A0.cells];(first | refine hK1 _ ?_ | refine AD (hK1 _ ?_));clear hK1 K1) | ((first | refine Aa ?_ | refine Al ?_);refine hK _ ?_;clear hK K)))
 have hsc:=ax R hv hRr
 have hwc:=Ux R hv (by omega) hRr
 have hdc:=cC R hv (by omega) (by omega) hRr
 have hcm:=cD R hv (by omega) (by omega) hRr
 simp only [B7,As] at hsc hwc hdc hcm
 (refine Bz [] [(0,1,1),(2,1,3),(4,1,5),(1,2,0),(3,2,0),(5,2,0),(6,0,0),(7,0,0),(8,2,0)] (by kernel_rfl) (by kernel_rfl) (by intro c st h;simp [Ae,AF,VT] at h) ?_)
 (repeat (first | ((first | refine Wd rfl rfl rfl ?_ | refine We rfl rfl rfl rfl rfl rfl rfl rfl rfl ?_ | refine Vc rfl rfl rfl rfl rfl rfl rfl ?_ | refine Vd rfl rfl rfl ?_ | refine Vf rfl rfl rfl rfl ?_);intro K1 hK1;simp only [go_sem];(first | refine hK1 _ ?_ | refine AD (hK1 _ ?_));clear hK1 K1) | (refine Po ⟨by simp,by simp,?_⟩;refine hK _ ?_;clear hK K)))
 (refine Wf rfl rfl ?_;intro K1 hK1;refine AZ ?_;refine BW (ids:=[]) [] (hsc) rfl rfl (by simp only [go_sem]) (by kernel_rfl) rfl rfl rfl (by (simp only [List.map_append,List.append_nil,go_sem]) <;> rfl) (by (simp only [VS,go_sem]) <;> rfl) ?_ ?_)
 ·rintro _ _ ⟨_,_,_,rfl,rfl⟩ i o hi hl;simp at hl
 rintro _ _ ⟨s,hsf,hsN,rfl,rfl⟩
 (simp only [As,Bl,List.append_nil,List.nil_append,List.length_map,go_sem];refine hK1 _ ?_;clear hK1 K1)
 (repeat (first | ((first | refine Wd rfl rfl rfl ?_ | refine We rfl rfl rfl rfl rfl rfl rfl rfl rfl ?_ | refine Vc rfl rfl rfl rfl rfl rfl rfl ?_ | refine Vd rfl rfl rfl ?_ | refine Vf rfl rfl rfl rfl ?_);intro K1 hK1;simp only [go_sem];(first | refine hK1 _ ?_ | refine AD (hK1 _ ?_));clear hK1 K1) | (refine Po ⟨by simp,by simp,?_⟩;refine hK _ ?_;clear hK K)))
 (refine Wf rfl rfl ?_;intro K1 hK1;refine AZ ?_;refine BW (ids:=[]) [] (hdc) rfl rfl (by simp only [go_sem]) (by kernel_rfl) rfl rfl rfl (by (simp only [List.map_append,List.append_nil,go_sem]) <;> rfl) (by (simp only [VS,go_sem]) <;> rfl) ?_ ?_)
 ·rintro _ _ ⟨_,_,_,rfl,rfl⟩ i o hi hl;simp at hl
 rintro _ _ ⟨d,hd,hdN,rfl,rfl⟩
 (simp only [As,Bl,List.append_nil,List.nil_append,List.length_map,go_sem];refine hK1 _ ?_;clear hK1 K1)
 (repeat (first | ((first | refine Wd rfl rfl rfl ?_ | refine We rfl rfl rfl rfl rfl rfl rfl rfl rfl ?_ | refine Vc rfl rfl rfl rfl rfl rfl rfl ?_ | refine Vd rfl rfl rfl ?_ | refine Vf rfl rfl rfl rfl ?_);intro K1 hK1;simp only [go_sem];(first | refine hK1 _ ?_ | refine AD (hK1 _ ?_));clear hK1 K1) | (refine Po ⟨by simp,by simp,?_⟩;refine hK _ ?_;clear hK K)))
 (refine Wf rfl rfl ?_;intro K1 hK1;refine AZ ?_;refine BW (ids:=[]) [] (hwc) rfl rfl (by simp only [go_sem]) (by kernel_rfl) rfl rfl rfl (by (simp only [List.map_append,List.append_nil,go_sem]) <;> rfl) (by (simp only [VS,go_sem]) <;> rfl) ?_ ?_)
 ·rintro _ _ ⟨_,_,_,rfl,rfl⟩ i o hi hl;simp at hl
 rintro _ _ ⟨w,hw,hwN,rfl,rfl⟩
 (simp only [As,Bl,List.append_nil,List.nil_append,List.length_map,go_sem];refine hK1 _ ?_;clear hK1 K1)
 (repeat (first | ((first | refine Wd rfl rfl rfl ?_ | refine We rfl rfl rfl rfl rfl rfl rfl rfl rfl ?_ | refine Vc rfl rfl rfl rfl rfl rfl rfl ?_ | refine Vd rfl rfl rfl ?_ | refine Vf rfl rfl rfl rfl ?_);intro K1 hK1;simp only [go_sem];(first | refine hK1 _ ?_ | refine AD (hK1 _ ?_));clear hK1 K1) | (refine Po ⟨by simp,by simp,?_⟩;refine hK _ ?_;clear hK K)))
 (refine Wg rfl rfl rfl ?_;intro K1 hK1;refine AP rfl ?_;simp only [go_sem];(first | refine hK1 _ ?_ | refine AD (hK1 _ ?_));clear hK1 K1)
 (repeat (first | ((first | refine Wd rfl rfl rfl ?_ | refine We rfl rfl rfl rfl rfl rfl rfl rfl rfl ?_ | refine Vc rfl rfl rfl rfl rfl rfl rfl ?_ | refine Vd rfl rfl rfl ?_ | refine Vf rfl rfl rfl rfl ?_);intro K1 hK1;simp only [go_sem];(first | refine hK1 _ ?_ | refine AD (hK1 _ ?_));clear hK1 K1) | (refine Po ⟨by simp,by simp,?_⟩;refine hK _ ?_;clear hK K)))
 have hsl:=hsN.len
 have hwl:=hwN.len
 have hdl:=hdN.len
 have hkey:=(aE hsf).toK hv hv
 have hkeyd:=(DlC.key hv (by omega) hd).toW hv hv
 have hfin:∀ i k,i<R.length->k<R.length->s.getD i 0=s.getD k 0->d.getD i 0=d.getD k 0:=fun i k hi hk h=>hkey.le hv (by omega) hd hi hk h
 have hfid:∀ i k,i<R.length->k<R.length->d.getD i 0=d.getD k 0->w.getD i 0=w.getD k 0:=fun i k hi hk h=>hkeyd.le hv (by omega) hw hi hk h
 clear hkey hkeyd hw hwN hsf hsN hd hdN
 (repeat (first | (refine AC ?_;intro K hK) | refine Aj ?_ | refine Ad ?_ | (refine B5 rfl rfl ?_;intro K1 hK1;simp only [go_sem,A4,hsl,hdl,hwl,A3,bne_self_eq_false];(first | refine hK1 _ ?_ | refine AD (hK1 _ ?_));clear hK1 K1) | ((first | refine Aa ?_ | refine Al ?_);refine hK _ ?_;clear hK K)))
 (refine At ?_;intro X Y hX hY;simp only [go_sem])
 refine hY ?_
 clear hX hY X Y
 (repeat (first | (refine AC ?_;intro K hK) | refine Aj ?_ | refine Ad ?_ | (refine B5 rfl rfl ?_;intro K1 hK1;simp only [go_sem];(first | refine hK1 _ ?_ | refine AD (hK1 _ ?_));clear hK1 K1) | ((first | refine Aa ?_ | refine Al ?_);refine hK _ ?_;clear hK K)))
 refine A8 (fun i:Nat=>{ tm:=[(3,.a (.c (.p 0 0))),(4,.a (.c (.t 1 (Ab s)))),(5,.a (.c (.t 1 (Ab d)))),(6,.a (.c (.t 1 (Ab w)))),(7,.i i)],hp:=[.r ⟨25,1,false,[.t 1 (Ah R)]⟩],n:=110,pin:=0 }) (fun i=>i<=R.length) (fun i=>R.length - i) 0 ?_ ?_ ?_
 ·omega
 ·refine Le.trans (A9 [2] rfl rfl) ?_
  (try simp only [List.set_nil,List.take_nil,List.take_zero,List.map_append,go_sem])
  (refine BG ?_;simp only [Dg,go_sem];try simp)
 rintro i hi K hK
 by_cases hlt:i<R.length
 rotate_left
 ·have d1:decide ((i:Int)<(R.length:Int))=false:=by simpa using hlt
  (repeat (first | (refine AC ?_;intro K hK) | refine Aj ?_ | refine Ad ?_ | (refine B5 rfl rfl ?_;intro K1 hK1;simp only [go_sem,A4,hsl,d1];(first | refine hK1 _ ?_ | refine AD (hK1 _ ?_));clear hK1 K1) | ((first | refine Aa ?_ | refine Al ?_);refine hK _ ?_;clear hK K)))
  (refine At ?_;intro X Y hX hY;simp only [go_sem])
  refine hY ?_
  clear hX hY X Y
  (refine Df ?_;simp only [Ae,AF,reduceIte,Nat.reduceEqDiff];(first | refine hK _ ?_ | (clear hK K;refine hK _ ?_) | (clear hK K;clear hK K;refine hK _ ?_) | (clear hK K;clear hK K;clear hK K;refine hK _ ?_) | (clear hK K;clear hK K;clear hK K;clear hK K;refine hK _ ?_) | (clear hK K;clear hK K;clear hK K;clear hK K;clear hK K;refine hK _ ?_));clear hK K)
  (repeat (first | (refine AC ?_;intro K hK) | refine Aj ?_ | refine Ad ?_ | (refine B5 rfl rfl ?_;intro K1 hK1;simp only [go_sem];(first | refine hK1 _ ?_ | refine AD (hK1 _ ?_));clear hK1 K1) | ((first | refine Aa ?_ | refine Al ?_);refine hK _ ?_;clear hK K)))
  (refine Ai rfl ?_;intro K1 hK1;refine (Bb (ids:=[]) (hcm) rfl rfl (by simp only [go_sem]) (by kernel_rfl) (by (simp only [List.append_nil,go_sem]) <;> rfl) ?_).stp)
  intro r0 o0 ⟨c,B,hc,hN,hB,h⟩
  obtain ⟨X,hXe,hXv,hXl,hXt,f,kX,m1,m2,m3,m4,m0⟩:=cZ hv (by omega) (by omega) ((DlC.key hv (by omega) hc).toW hv hv) hN.num hB
  have hEq:EqW R X=true:=Zv hv hXv (by omega) (by omega) m1 m2 m3 m4 m0
  rw [<- hXe] at h
  obtain ⟨rfl,rfl⟩:=h
  clear hc hN hB hXe m1 m2 m3 m4 m0
  have hwe:=Zs R X hv hXv (by omega) (by omega) hRr (fun r hr=>by have:=Q6 r hr;omega)
  rw [hEq] at hwe
  simp only [B7] at hwe
  (simp only [As,Bl,List.append_nil,List.nil_append,List.length_map,go_sem];refine hK1 _ ?_;clear hK1 K1)
  (repeat (first | (refine AC ?_;intro K hK) | refine Aj ?_ | refine Ad ?_ | (refine B5 rfl rfl ?_;intro K1 hK1;simp only [go_sem,ST.put,DJ,A0.cells];(first | refine hK1 _ ?_ | refine AD (hK1 _ ?_));clear hK1 K1) | ((first | refine Aa ?_ | refine Al ?_);refine hK _ ?_;clear hK K)))
  (refine BV rfl rfl (by simp only [go_sem] <;> rfl) ?_;intro K1 hK1;refine (Bb (ids:=[]) (hwe) rfl rfl (by simp only [go_sem]) (by kernel_rfl) (by (simp only [List.append_nil,go_sem]) <;> rfl) ?_).stp)
  rintro _ _ ⟨rfl,rfl⟩
  (simp only [As,Bl,List.append_nil,List.nil_append,List.length_map,go_sem];refine hK1 _ ?_;clear hK1 K1)
  (repeat (first | (refine AC ?_;intro K hK) | refine Aj ?_ | refine Ad ?_ | (refine B5 rfl rfl ?_;intro K1 hK1;simp only [go_sem];(first | refine hK1 _ ?_ | refine AD (hK1 _ ?_));clear hK1 K1) | ((first | refine Aa ?_ | refine Al ?_);refine hK _ ?_;clear hK K)))
  (refine BV rfl rfl (by simp only [go_sem] <;> rfl) ?_;intro K1 hK1;refine (Bb (ids:=[]) (cu) rfl rfl (by simp only [go_sem]) (by kernel_rfl) (by (simp only [List.append_nil,go_sem]) <;> rfl) ?_).stp)
  rintro _ _ rfl
  (simp only [As,Bl,List.append_nil,List.nil_append,List.length_map,go_sem];refine hK1 _ ?_;clear hK1 K1)
  (repeat (first | (refine AC ?_;intro K hK) | refine Aj ?_ | refine Ad ?_ | (refine B5 rfl rfl ?_;intro K1 hK1;simp only [go_sem];(first | refine hK1 _ ?_ | refine AD (hK1 _ ?_));clear hK1 K1) | ((first | refine Aa ?_ | refine Al ?_);refine hK _ ?_;clear hK K)))
  ((try refine Av ?_);(try refine Aa ?_);(try simp only [Ae,AF]);refine Bj (by first | exact .inl rfl | exact .inr rfl) rfl ?_;simp only [VU,Dy,Du,DL,Tryz.results6,go_sem])
 have d1:decide ((i:Int)<(R.length:Int))=true:=by simpa using hlt
 (repeat (first | (refine AC ?_;intro K hK) | refine Aj ?_ | refine Ad ?_ | (refine B5 rfl rfl ?_;intro K1 hK1;simp only [go_sem,A4,hsl,d1];(first | refine hK1 _ ?_ | refine AD (hK1 _ ?_));clear hK1 K1) | ((first | refine Aa ?_ | refine Al ?_);refine hK _ ?_;clear hK K)))
 (refine At ?_;intro X Y hX hY;simp only [go_sem])
 refine hX ?_
 clear hX hY X Y
 (repeat (first | (refine AC ?_;intro K hK) | refine Aj ?_ | refine Ad ?_ | (refine B5 rfl rfl ?_;intro K1 hK1;simp only [go_sem];(first | refine hK1 _ ?_ | refine AD (hK1 _ ?_));clear hK1 K1) | ((first | refine Aa ?_ | refine Al ?_);refine hK _ ?_;clear hK K)))
 refine A8 (fun k:Nat=>{ tm:=[(3,.a (.c (.p 0 0))),(4,.a (.c (.t 1 (Ab s)))),(5,.a (.c (.t 1 (Ab d)))),(6,.a (.c (.t 1 (Ab w)))),(7,.i i),(8,.i k)],hp:=[.r ⟨25,1,false,[.t 1 (Ah R)]⟩],n:=110,pin:=0 }) (fun k=>k<=i) (fun k=>i - k) 0 ?_ ?_ ?_
 ·omega
 ·(refine BG ?_;simp only [Dg,go_sem];try simp)
 rintro k hk K hK
 by_cases hlk:k<i
 rotate_left
 ·have d2:decide ((k:Int)<(i:Int))=false:=by simpa using hlk
  (repeat (first | (refine AC ?_;intro K hK) | refine Aj ?_ | refine Ad ?_ | (refine B5 rfl rfl ?_;intro K1 hK1;simp only [go_sem,d2];(first | refine hK1 _ ?_ | refine AD (hK1 _ ?_));clear hK1 K1) | ((first | refine Aa ?_ | refine Al ?_);refine hK _ ?_;clear hK K)))
  (refine At ?_;intro X Y hX hY;simp only [go_sem])
  refine hY ?_
  clear hX hY X Y
  (refine Df ?_;simp only [Ae,AF,reduceIte,Nat.reduceEqDiff];(first | refine hK _ ?_ | (clear hK K;refine hK _ ?_) | (clear hK K;clear hK K;refine hK _ ?_) | (clear hK K;clear hK K;clear hK K;refine hK _ ?_) | (clear hK K;clear hK K;clear hK K;clear hK K;refine hK _ ?_) | (clear hK K;clear hK K;clear hK K;clear hK K;clear hK K;refine hK _ ?_));clear hK K)
  (repeat (first | (refine AC ?_;intro K hK) | refine Aj ?_ | refine Ad ?_ | (refine B5 rfl rfl ?_;intro K1 hK1;simp only [go_sem];(first | refine hK1 _ ?_ | refine AD (hK1 _ ?_));clear hK1 K1) | ((first | refine Aa ?_ | refine Al ?_);refine hK _ ?_;clear hK K)))
  ((try refine Aa ?_);(try refine Al ?_);try simp only [Ae])
  refine hK _ (i+1) (by omega) (by omega) ?_
  (refine BG ?_;simp only [Dg,go_sem];try simp)
 have d2:decide ((k:Int)<(i:Int))=true:=by simpa using hlk
 have hkR:k<R.length:=by omega
 have gi:=Am (show s[i]?=some (s.getD i 0) from by rw [gE2,gE1 (by omega)];rfl)
 have gk:=Am (show s[k]?=some (s.getD k 0) from by rw [gE2,gE1 (by omega)];rfl)
 have hi2:=Am (show w[i]?=some (w.getD i 0) from by rw [gE2,gE1 (by omega)];rfl)
 have hk2:=Am (show w[k]?=some (w.getD k 0) from by rw [gE2,gE1 (by omega)];rfl)
 have di:=Am (show d[i]?=some (d.getD i 0) from by rw [gE2,gE1 (by omega)];rfl)
 have dk:=Am (show d[k]?=some (d.getD k 0) from by rw [gE2,gE1 (by omega)];rfl)
 have hf2:=hfin i k hlt hkR
 have hf3:=hfid i k hlt hkR
 generalize d.getD i 0=z1 at *
 generalize d.getD k 0=z2 at *
 generalize s.getD i 0=x1 at *
 generalize s.getD k 0=x2 at *
 generalize w.getD i 0=y1 at *
 generalize w.getD k 0=y2 at *
 (repeat (first | (refine AC ?_;intro K hK) | refine Aj ?_ | refine Ad ?_ | (refine B5 rfl rfl ?_;intro K1 hK1;simp only [go_sem,d2];(first | refine hK1 _ ?_ | refine AD (hK1 _ ?_));clear hK1 K1) | ((first | refine Aa ?_ | refine Al ?_);refine hK _ ?_;clear hK K)))
 (refine At ?_;intro X Y hX hY;simp only [go_sem])
 refine hX ?_
 clear hX hY X Y
 (repeat (first | (refine AC ?_;intro K hK) | refine Aj ?_ | refine Ad ?_ | (refine B5 rfl rfl ?_;intro K1 hK1;simp only [go_sem];(first | refine hK1 _ ?_ | refine AD (hK1 _ ?_));clear hK1 K1) | ((first | refine Aa ?_ | refine Al ?_);refine hK _ ?_;clear hK K)))
 (refine Bz [] [(0,0,0),(1,0,0),(2,0,0),(4,0,0),(5,0,0),(6,0,0),(3,1,41),(7,1,41),(8,0,0),(9,0,0),(10,0,0),(11,0,0),(12,0,0),(14,0,0),(15,0,0),(16,0,0),(13,1,41),(17,1,41),(18,0,0),(19,0,0),(20,0,0),(21,0,0),(22,0,0),(23,0,0),(25,0,0),(26,0,0),(27,0,0),(24,1,41),(28,1,41),(29,0,0),(30,0,0),(31,0,0),(32,0,0),(33,0,0),(35,0,0),(36,0,0),(37,0,0),(34,1,41),(38,1,41),(39,0,0),(40,0,0),(41,2,0)] (by kernel_rfl) (by kernel_rfl) (by intro c st h;simp [Ae,AF,VT] at h) ?_)
 by_cases he:x1=x2
 ·have ge:(x1 == x2)=true:=by simpa using he
  have gm:(z1 != z2)=false:=by rw [hf2 he];exact bne_self_eq_false' ..
  have gq:(z1 == z2)=true:=by simpa using hf2 he
  have gn:(y1 != y2)=false:=by rw [hf3 (hf2 he)];exact bne_self_eq_false' ..
  (repeat (first | ((first | refine Wd rfl rfl rfl ?_ | refine We rfl rfl rfl rfl rfl rfl rfl rfl rfl ?_ | refine Vc rfl rfl rfl rfl rfl rfl rfl ?_ | refine Vd rfl rfl rfl ?_ | refine Vf rfl rfl rfl rfl ?_);intro K1 hK1;simp only [go_sem,A4,hsl,hdl,hwl,gi,gk,di,dk,ge,hi2,hk2,gn,gm,gq];(first | refine hK1 _ ?_ | refine AD (hK1 _ ?_));clear hK1 K1) | (refine Po ⟨by simp,by simp,?_⟩;refine hK _ ?_;clear hK K)))
  (refine Wg rfl rfl rfl ?_;intro K1 hK1;refine AP rfl ?_;simp only [go_sem,hi2,hk2,gn,gm,gq];(first | refine hK1 _ ?_ | refine AD (hK1 _ ?_));clear hK1 K1)
  (repeat (first | ((first | refine Wd rfl rfl rfl ?_ | refine We rfl rfl rfl rfl rfl rfl rfl rfl rfl ?_ | refine Vc rfl rfl rfl rfl rfl rfl rfl ?_ | refine Vd rfl rfl rfl ?_ | refine Vf rfl rfl rfl rfl ?_);intro K1 hK1;simp only [go_sem];(first | refine hK1 _ ?_ | refine AD (hK1 _ ?_));clear hK1 K1) | (refine Po ⟨by simp,by simp,?_⟩;refine hK _ ?_;clear hK K)))
  (refine At ?_;intro X Y hX hY;simp only [go_sem])
  refine hY ?_
  clear hX hY X Y
  (repeat (first | (refine AC ?_;intro K hK) | refine Aj ?_ | refine Ad ?_ | (refine B5 rfl rfl ?_;intro K1 hK1;simp only [go_sem];(first | refine hK1 _ ?_ | refine AD (hK1 _ ?_));clear hK1 K1) | ((first | refine Aa ?_ | refine Al ?_);refine hK _ ?_;clear hK K)))
  ((try refine Aa ?_);(try refine Al ?_);try simp only [Ae])
  refine hK _ (k+1) (by omega) (by omega) ?_
  (refine BG ?_;simp only [Dg,go_sem];try simp)
 have ge:(x1 == x2)=false:=by simpa using he
 by_cases hq:z1=z2
 rotate_left
 ·have gq:(z1 == z2)=false:=by simpa using hq
  (repeat (first | ((first | refine Wd rfl rfl rfl ?_ | refine We rfl rfl rfl rfl rfl rfl rfl rfl rfl ?_ | refine Vc rfl rfl rfl rfl rfl rfl rfl ?_ | refine Vd rfl rfl rfl ?_ | refine Vf rfl rfl rfl rfl ?_);intro K1 hK1;simp only [go_sem,A4,hsl,hdl,hwl,gi,gk,di,dk,ge,hi2,hk2,gq];(first | refine hK1 _ ?_ | refine AD (hK1 _ ?_));clear hK1 K1) | (refine Po ⟨by simp,by simp,?_⟩;refine hK _ ?_;clear hK K)))
  (refine Wg rfl rfl rfl ?_;intro K1 hK1;refine AP rfl ?_;simp only [go_sem,hi2,hk2,gq];(first | refine hK1 _ ?_ | refine AD (hK1 _ ?_));clear hK1 K1)
  (repeat (first | ((first | refine Wd rfl rfl rfl ?_ | refine We rfl rfl rfl rfl rfl rfl rfl rfl rfl ?_ | refine Vc rfl rfl rfl rfl rfl rfl rfl ?_ | refine Vd rfl rfl rfl ?_ | refine Vf rfl rfl rfl rfl ?_);intro K1 hK1;simp only [go_sem];(first | refine hK1 _ ?_ | refine AD (hK1 _ ?_));clear hK1 K1) | (refine Po ⟨by simp,by simp,?_⟩;refine hK _ ?_;clear hK K)))
  (refine At ?_;intro X Y hX hY;simp only [go_sem])
  refine hY ?_
  clear hX hY X Y
  (repeat (first | (refine AC ?_;intro K hK) | refine Aj ?_ | refine Ad ?_ | (refine B5 rfl rfl ?_;intro K1 hK1;simp only [go_sem];(first | refine hK1 _ ?_ | refine AD (hK1 _ ?_));clear hK1 K1) | ((first | refine Aa ?_ | refine Al ?_);refine hK _ ?_;clear hK K)))
  ((try refine Aa ?_);(try refine Al ?_);try simp only [Ae])
  refine hK _ (k+1) (by omega) (by omega) ?_
  (refine BG ?_;simp only [Dg,go_sem];try simp)
 have gq:(z1 == z2)=true:=by simpa using hq
 have gn:(y1 != y2)=false:=by rw [hf3 hq];exact bne_self_eq_false' ..
 (repeat (first | ((first | refine Wd rfl rfl rfl ?_ | refine We rfl rfl rfl rfl rfl rfl rfl rfl rfl ?_ | refine Vc rfl rfl rfl rfl rfl rfl rfl ?_ | refine Vd rfl rfl rfl ?_ | refine Vf rfl rfl rfl rfl ?_);intro K1 hK1;simp only [go_sem,A4,hsl,hdl,hwl,gi,gk,di,dk,ge,hi2,hk2,gn,gq];(first | refine hK1 _ ?_ | refine AD (hK1 _ ?_));clear hK1 K1) | (refine Po ⟨by simp,by simp,?_⟩;refine hK _ ?_;clear hK K)))
 (refine Wg rfl rfl rfl ?_;intro K1 hK1;refine AP rfl ?_;simp only [go_sem,hi2,hk2,gn,gq];(first | refine hK1 _ ?_ | refine AD (hK1 _ ?_));clear hK1 K1)
 (repeat (first | ((first | refine Wd rfl rfl rfl ?_ | refine We rfl rfl rfl rfl rfl rfl rfl rfl rfl ?_ | refine Vc rfl rfl rfl rfl rfl rfl rfl ?_ | refine Vd rfl rfl rfl ?_ | refine Vf rfl rfl rfl rfl ?_);intro K1 hK1;simp only [go_sem];(first | refine hK1 _ ?_ | refine AD (hK1 _ ?_));clear hK1 K1) | (refine Po ⟨by simp,by simp,?_⟩;refine hK _ ?_;clear hK K)))
 (refine At ?_;intro X Y hX hY;simp only [go_sem])
 refine hY ?_
 clear hX hY X Y
 (repeat (first | (refine AC ?_;intro K hK) | refine Aj ?_ | refine Ad ?_ | (refine B5 rfl rfl ?_;intro K1 hK1;simp only [go_sem];(first | refine hK1 _ ?_ | refine AD (hK1 _ ?_));clear hK1 K1) | ((first | refine Aa ?_ | refine Al ?_);refine hK _ ?_;clear hK K)))
 ((try refine Aa ?_);(try refine Al ?_);try simp only [Ae])
 refine hK _ (k+1) (by omega) (by omega) ?_
 (refine BG ?_;simp only [Dg,go_sem];try simp)
open Go.RowKit Go.Deep Go.ChangeShapes
theorem HM {w:World} {a:Addr} {v:Value} (h:w.cell? a=some v):a.spot=none/\a.block<w.heap.size:=by
 constructor
 rotate_left
 ·rcases Nat.lt_or_ge a.block w.heap.size with hl | hl
  ·exact hl
  simp [World.cell?,Array.getElem?_eq_none hl] at h
 unfold World.cell? at h
 split at h
 rotate_left
 ·cases h
 split at h
 ·cases h
 rename_i hs;cases hsp:a.spot with
 | none=>rfl
 | some x=>simp [hsp] at hs
variable {H : Type} {enc : TypeId × Value -> H}
end Go.Proofs.YtjijjfkalheokaaGreatDoor
namespace Go.Proofs.YtjijjfkalheokaaGreatDoor
set_option linter.unusedVariables false
set_option linter.unusedSimpArgs false
open Go.RowKit Go.Deep Go.ChangeShapes Go.WideShapes

def Yy:Nat->Prop:=fun _=>False
variable {H : Type} {enc : TypeId × Value -> H}
theorem Tj {P:Program} {w:World} {t e:TypeId} {fuel:Nat} {v:Value} {x:DataW H × List MemPlace} (ht:P.underlying t=some (.slice e)) (he:P.underlying e=some (.int .i64)) (hc:P.cellsOf e=1) (h:DataW.trod enc P w 0 (fun _=>true) true fuel t [v]=some x):
  ∃ zs,Rd Yy w (.l 1 (Ab zs)) v/\zs.length<=9223372036854775807/\∀ y∈zs,Ld y:=by
 rcases open_ints ht he hc h with ⟨hcs,_⟩ | ⟨a,l,c,zs,hcs,_,hl,hm,hz,_,hcell,hwz⟩
 ·simp at hcs;subst hcs
  exact ⟨[],.e _ _ _,by simp,by simp⟩
 simp at hcs;subst hcs
 have hzl:zs.length=c:=by simpa using hz
 simp only [maxLen] at hm
 refine ⟨zs.take l,?_,by simp;omega,fun y hy=>?_⟩
 rotate_left
 ·have:=hwz y (List.mem_of_mem_take hy)
  have h2 : -9223372036854775808<=y/\y<=9223372036854775807:=by simpa [Lit.wf,IntKind.min,IntKind.max,IntKind.signed,IntKind.bits] using this
  exact ⟨h2.1,by omega⟩
 rcases Nat.eq_zero_or_pos l with h0 | h0
 ·subst h0;exact .e _ _ _
 have hX0:=hcell 0 (by omega)
 simp [Addr.add] at hX0
 obtain ⟨hsp,hlt⟩:=HM hX0
 obtain ⟨b,off,rfl⟩:∃ b off,a=⟨b,off,none⟩:=⟨a.block,a.off,by cases a;simp at hsp;subst hsp;rfl⟩
 have hadd:∀ q,(⟨b,off,none⟩:Addr).add q=⟨b,off+q,none⟩:=fun q=>by unfold Addr.add;split <;> simp_all
 refine .l 1 _ b off l c (fun j=>.int .i64 (zs.getD j 0)) (by simp [Ab];omega) h0 hl (fun h=>h) hlt (fun j t hj=>?_) (fun j t hj=>?_)
 ·have hj2:j<l:=by
   have:=(List.getElem?_eq_some_iff.1 hj).1
   simp [Ab] at this;omega
  rw [<- hadd];exact hcell j (by omega)
 have hj2:j<l:=by
  have:=(List.getElem?_eq_some_iff.1 hj).1
  simp [Ab] at this;omega
 simp only [Ab,List.getElem?_map,List.getElem?_take,if_pos hj2] at hj
 rw [gE1 (by omega)] at hj
 simp at hj
 subst hj
 rw [List.getD,gE1 (by omega)]
 exact .v _ rfl
theorem OS {P:Program} {f:FuncId} {args:List AV} (h:FC P f args [] (fun r _=>r=.b true)) (W:World) (vals:List Value) (hl:vals.length=args.length)
  (ha:∀ (i:Nat) (x:AV),args[i]?=some x->∃ v,vals[i]?=some v/\∀ g:Gh,g.M=Yy->AVR (CR g [] W) x v) (hgl:GlR Yy W:=by intro n vs h;cases h):Calls P f vals.toArray W fun e W'=>e=.returned (.bool true)/\Fr [] W W':=by
 let g:Gh:=⟨fun _=>0,fun _=>0,Yy⟩
 have lv:∀ ℓ,¬ Lv [] g ℓ:=by
  intro ℓ hl
  cases ℓ with
  | ob i=>rcases hl with ⟨r,e,_⟩ | ⟨kv,e⟩ <;> simp at e
  | cl i j=>obtain ⟨r,k,cs,e,_⟩:=hl;simp at e
 have hr:HR g [] W:=⟨fun b hb=>hb.elim,fun ℓ hl=>(lv ℓ hl).elim,fun ℓ _ hl _ _=>(lv ℓ hl).elim,fun id r e=>by simp at e,fun id kv e=>by simp at e,hgl.keep (Nat.le_refl _) (fun _ _ _=>rfl) (fun k _ ho=>ho.elim (fun h=>h) (fun ⟨ℓ,hl,_⟩=>(lv ℓ hl).elim))⟩
 refine (h g W vals hr ⟨hl,fun i x hx=>by obtain ⟨v,h1,h2⟩:=ha i x hx;exact ⟨v,h1,h2 g rfl⟩⟩).mono ?_
 rintro e W' ⟨v,r,outs,g',rfl,rfl,_,_,_,hv,hf⟩
 exact ⟨by rw [show v=.bool true from hv],hf.fr fun k _ ⟨ℓ,hl,_⟩=>(lv ℓ hl).elim⟩
theorem Tk {g:Gh} (h:g.M=Yy) {b:Nat}:¬ Ow [] g b:=by
 rintro (ho | ⟨ℓ,hl,_⟩)
 ·rw [h] at ho;exact ho
 cases ℓ with
 | ob i=>rcases hl with ⟨r,e,_⟩ | ⟨kv,e⟩ <;> simp at e
 | cl i j=>obtain ⟨r,k,cs,e,_⟩:=hl;simp at e
theorem Rn {g:Gh} {W:World} {k:Nat} {cs:List Tr} {v:Value} (h:Rd Yy W (.l k cs) v) (hg:g.M=Yy):AVR (CR g [] W) (.a (.c (.t k cs))) v:=h.mono fun _ _ ho=>absurd ho (Tk hg)
theorem ZA:ownKnob Tryz.prog.godebug=none:=by kernel_rfl
theorem La:laidOutB Tryz.prog=true:=by kernel_rfl
end Go.Proofs.YtjijjfkalheokaaGreatDoor
namespace Go.Proofs.YtjijjfkalheokaaGreatDoor
set_option linter.unusedVariables false
set_option linter.unusedSimpArgs false
open Go.ChangeShapes Go.WideShapes Go.ChangeAt Go.RowKit

def QP:List Int:=Lib.deBruijn64tab.map fun (k:Nat)=>(k:Int)
def OT:List (String × DataW Unit):=[("math/bits.deBruijn64tab",Lib.tabData .u8 QP)]
theorem Vl:Tryz.prog.globalNamed "math/bits.deBruijn64tab" = some 0:=by kernel_rfl
theorem JF {W:World} (h:laidMetH Tryz.prog OT W):GlR (fun _=>False) W:=by
 rw [MakeChecks.laidMetH_plain _ _ _ (by kernel_rfl)] at h
 have hT:=Lib.tabIs_of_head (n:=64) (k:=.u8) Vl (by kernel_rfl) Tryz.underlying187 Tryz.underlying5 (by kernel_rfl) (by kernel_rfl) h
 intro n vs hn
 unfold Ro at hn
 rw [List.lookup_cons] at hn
 split at hn
 rotate_left
 ·cases hn
 rename_i e
 have e2:n=0:=by simpa using e
 subst e2
 cases hn
 have hl:(Lib.deBruijn64tab).length=64:=by decide
 have hc:∀ j,j<64->W.cell? ⟨0,j,none⟩=some (.int .u8 (QP.getD j 0)):=fun j hj=>hT.cell Vl j (by simp [QP,hl,hj])
 refine ⟨fun h=>h,(HM (hc 0 (by omega))).2,fun j v hj=>?_⟩
 rw [List.getElem?_map,Option.map_eq_some_iff] at hj
 obtain ⟨k,hk,rfl⟩:=hj
 have hj2:j<64:=by have:=(List.getElem?_eq_some_iff.1 hk).1;omega
 refine ⟨rfl,?_⟩
 rw [hc j hj2]
 simp [QP,gE2,hk]
end Go.Proofs.YtjijjfkalheokaaGreatDoor
