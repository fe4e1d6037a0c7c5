/- Lemmas. -/
import Derived.Test.YtjijjfkalheokaaDoorZk
import Derived.Test.YtjijjfkalheokaaDoorG67
import Derived.Test.YtjijjfkalheokaaDoorPo10
import Derived.Test.YtjijjfkalheokaaDoorDw1
import Derived.Test.YtjijjfkalheokaaDoorW07
import Derived.Test.YtjijjfkalheokaaDoorG37
import Derived.Test.YtjijjfkalheokaaDoorQu1
import Derived.Test.YtjijjfkalheokaaDoorBase
import Derived.Deep.Slices
import Derived.ProofKit
import Derived.Test.YtjijjfkalheokaaDoorMF
import Derived.Test.YtjijjfkalheokaaDoorRows
import Derived.OpenShut
import Derived.Test.YtjijjfkalheokaaDoorMA
import Derived.Lib.LaidTab
import Derived.LaidMore
namespace Go.Proofs.YtjijjfkalheokaaDoor
set_option linter.unusedVariables false
set_option linter.unusedSimpArgs false
open Go.RowKit
set_option maxRecDepth 100000
attribute [local go_sem] lga C.pl C.one

def YY (x:List (List Ar)) (r:AV) (o:List Ob):Prop:=
 if BP x<=262144 then o=[.r ⟨24,1,false,[.t 1 (Ae x)]⟩]/\r=.tup [.g [.t 1 (Ae x)],.c (.v (.int .i64 0))]
 else o=[.r ⟨24,1,false,[.v (.slice none 0 0)]⟩]/\r=.tup [.g [.v (.slice none 0 0)],.c (.v (.int .i64 10))]
set_option maxHeartbeats 8000000 in
theorem YG (R:List (List Ar)) (cl:List Int) (hv:Bg R=true) (hC:WR cl R.length=true) (hn:R.length<=1000000) (hr:∀ r∈R,r.length<=1000000):FC Tryd.prog 27 [BS R,AK cl] [] (fun r o=>∃ B,DvL R B/\YY (CG (qR R cl B)).1 r o):=by
 refine A8 Tryd.func27 rfl (by rw [Tryd.ntmps27];simp) ?_
 rw [Tryd.ntmps27]
 simp only [Bs,BS,AK]
 have hlo:Br R=true:=gEg (gE4 hv).1
 have h1:1<=R.length:=(gE4 hlo).1
 have hR16:R.length<=16384:=(gE4 hlo).2.1
 have htA:BP R<=262144:=(gE4 hlo).2.2.1
 have hbd:=(gE4 hlo).2.2.2
 obtain ⟨hCl,hmn,hcl,hmx⟩:=Wy hC
 have hcl1:0<cl.length:=by omega
 have hmax:X5 cl[0] cl+1=(YT cl:Int):=by
  have h0:0<=cl[0]:=by
   have:=(hcl 0 (by omega)).2
   rw [gE1 hcl1] at this
   injection this with this
   omega
  rw [<- hmx]
  cases cl with
  | nil=>simp at hcl1
  | cons x l=>exact (XI l h0).symm
 have hm1:1<=YT cl:=by have:=(hcl 0 (by omega)).1;omega
 (refine Ud ?_;(repeat clear hK K);repeat refine kq fun K hK=>?_)
 (refine Ui (CC R (by omega) (fun r h=>by have:=hr r h;omega)) ?_;intro K1 hK1)
 rintro _ _ ⟨rfl,rfl⟩
 (refine Uj ?_;clear hK1 K1)
 (refine Ue (an @hv (an @Bool.not_true @A6)) ?_;(repeat clear hK K);repeat refine kq fun K hK=>?_)
 (refine Dm rfl rfl (by simp only [go_sem] <;> rfl) ?_;intro K1 hK1;refine (Bu (ids:=[]) (YE cl R.length (by omega)) rfl rfl (by simp only [go_sem]) (by kernel_rfl) (by (simp only [List.append_nil,go_sem]) <;> rfl) ?_).stp)
 rintro _ _ ⟨rfl,rfl⟩
 (refine Uj ?_;clear hK1 K1)
 (refine Ue (an @hC @Bool.not_true) ?_;(repeat clear hK K);repeat refine kq fun K hK=>?_)
 refine Ul ?_
 (refine Ud ?_;(repeat clear hK K);repeat refine kq fun K hK=>?_)
 (refine Ui (LO R hv hn hr) ?_;intro K1 hK1)
 rintro _ _ ⟨B,hB,rfl,rfl⟩
 (refine Uj ?_;clear hK1 K1)
 have hBl:=hB.1
 have hB2:∀ s,s<R.length->B[s]?=some (B.getD s false):=fun s hs=>by rw [gE2,gE1 (by omega)];rfl
 have hend:∀ r o,YY (CG (qR R cl B)).1 r o->∃ B,DvL R B/\YY (CG (qR R cl B)).1 r o:=fun r o h=>⟨B,hB,h⟩
 (refine Ud ?_;(repeat clear hK K);repeat refine kq fun K hK=>?_)
 (refine Ui (YF cl hcl1 (by omega)) ?_;intro K1 hK1)
 rintro _ _ ⟨rfl,rfl⟩
 (refine Uj ?_;clear hK1 K1)
 have hqR:=XK (B:=B) hlo hC
 have hqe:qR R cl B=Wt (YU (YS cl) (YT cl) B R.length) (Wj (YS cl) (YT cl) R R.length) (YT cl):=rfl
 rw [hqe] at hqR
 generalize X5 cl[0] cl=mx at *
 generalize hm:YT cl=m at *
 generalize hf:YS cl=f at *
 (refine Ue (an @hmax @A6) ?_;(repeat clear hK K);repeat refine kq fun K hK=>?_)
 have e1:List.replicate m (C.o (2,29) [])=BD (Wj f m R 0):=by simp [BD,Wj,Al]
 have e2:List.replicate m (C.v (.bool false))=UC (YU f m B 0):=by
  have:YU f m B 0=List.replicate m false:=List.ext_getElem (by simp [YU]) fun i h1 h2=>by simp [YU]
  rw [this];simp [UC]
 rw [e1,e2]
 have hfm:∀ v,v<R.length->f v<m:=fun v hv=>(hcl v hv).1
 refine Ac (fun s:Nat=>{ tm:=[(1,.a (.c (.t 1 (Af cl)))),(2,.a (.c (.p 0 0))),(4,.a (.c (.p 1 0))),(6,.a (.c (.t 1 (UN B)))),(7,.a (.c (.s 2 m))),(8,.a (.c (.s 3 m))),(40,.a (.c (.t 1 (Ae R)))),(41,.i R.length),(42,.i s)],hp:=[.r ⟨24,1,false,[.t 1 (Ae R)]⟩,.r ⟨24,1,false,[.v (.slice none 0 0)]⟩,.r ⟨30,1,true,BD (Wj f m R s)⟩,.r ⟨4,1,true,UC (YU f m B s)⟩],n:=130,pin:=0 }) (fun s=>s<=R.length) (fun s=>R.length - s) 0 ?_ ?_ ?_
 ·omega
 ·exact Un
 rintro s hs K hK
 by_cases hlt:s<R.length
 rotate_left
 ·have d1:decide ((s:Int)<(R.length:Int))=false:=by simpa using hlt
  have hse:s=R.length:=by omega
  rw [hse] at d1
  rw [hse]
  (refine Ue @d1 ?_;(repeat clear hK K);repeat refine kq fun K hK=>?_)
  refine Ul ?_
  (refine Uh ?_;repeat clear hK K)
  have hLl:=Ww f m B R.length
  have hOl:=Wq f m R R.length
  have hOt:=WH f m R R.length (Nat.le_refl _)
  rw [List.take_length] at hOt
  generalize YU f m B R.length=L at *
  generalize Wj f m R R.length=O at *
  (refine B1 (Bh (r:=⟨4,1,true,UC L⟩) 3 (UN L) rfl (PI _) (show 0<(1:Nat) by omega)) ?_;simp only [ST.frz,A0.frz,AV.frz,C.frz,Nat.le_refl,List.set_cons_zero,List.set_cons_succ,go_sem,show (UN L).take m=UN L from gE7 (by rw [BT];omega),BT,hLl])
  (refine Ue (an @BT @hLl) ?_;(repeat clear hK K);repeat refine kq fun K hK=>?_)
  refine B1 (Ad [1,2] rfl rfl) ?_
  (try simp only [List.set_nil,List.take_nil,List.take_zero,List.map_append,go_sem])
  (try simp only [Ea])
  refine Ac (fun k:Nat=>{ tm:=[(4,.a (.c (.p 0 0))),(7,.a (.c (.s 1 m))),(101,.a (.c (.t 1 (UN L)))),(102,.i m),(103,.i k)],hp:=[.r ⟨24,1,false,[.v (.slice none 0 0)]⟩,.r ⟨30,1,true,BD (Wt L O k)⟩],n:=130,pin:=0 }) (fun k=>k<=m) (fun k=>m - k) 0 ?_ ?_ ?_
  ·omega
  ·simp only [Wt]
   exact Un
  rintro k hk K hK
  by_cases hlk:k<m
  rotate_left
  ·have d2:decide ((k:Int)<(m:Int))=false:=by simpa using hlk
   have hke:k=m:=by omega
   rw [hke] at d2
   rw [hke]
   (refine Ue @d2 ?_;(repeat clear hK K);repeat refine kq fun K hK=>?_)
   refine Ul ?_
   (refine Uh ?_;repeat clear hK K)
   obtain ⟨hql,hqb,hqt⟩:=hqR
   generalize Wt L O m=T at *
   have hrT:∀ r∈T,r.length<=1000000:=fun r hr0=>by
    obtain ⟨j,hj,rfl⟩:=List.getElem_of_mem hr0
    have h:=Wv T j
    rw [gE2,gE1 hj,Option.getD_some] at h
    omega
   have hco:=Xz T (by omega) (fun r hr0 a ha=>by have:=hqb r hr0 a ha;exact ⟨this.2.2.1,this.2.2.2⟩) (by omega) hrT
   generalize hxe:(CG T).1=x at *
   refine B1 (I1 1 rfl) ?_
   simp only [LN,go_sem]
   have htk:(Ae T).take m=Ae T:=gE7 (by rw [A6];omega)
   (refine B1 (Bh (r:=⟨30,1,true,Bd T⟩) 1 (Ae T) rfl (F4 _) (show 0<(1:Nat) by omega)) ?_;simp only [ST.frz,A0.frz,AV.frz,C.frz,Nat.le_refl,List.set_cons_zero,List.set_cons_succ,go_sem,htk,A6,hql])
   (refine Ud ?_;(repeat clear hK K);repeat refine kq fun K hK=>?_)
   (refine Ui hco ?_;intro K1 hK1)
   intro r0 o0 h0
   by_cases ht:BP x<=262144
   ·rw [YX,if_pos ht] at h0
    obtain ⟨rfl,rfl⟩:=h0
    (refine Uj ?_;clear hK1 K1)
    (refine CY @Bool.not_true ?_;(repeat clear hK K);repeat refine kq fun K hK=>?_)
    refine Ul ?_
    (refine Nh ?_;(repeat clear hK K);repeat refine kq fun K hK=>?_)
    refine Uo [0] Tryd.results27 ?_
    refine hend _ _ ?_
    rw [hqe,hxe,YY,if_pos ht]
    exact ⟨rfl,rfl⟩
   rw [YX,if_neg ht] at h0
   obtain ⟨rfl,rfl⟩:=h0
   (refine Uj ?_;clear hK1 K1)
   (refine CY @Bool.not_false ?_;(repeat clear hK K);repeat refine kq fun K hK=>?_)
   refine Uk ?_
   (refine Nh ?_;(repeat clear hK K);repeat refine kq fun K hK=>?_)
   refine Uo [0] Tryd.results27 ?_
   refine hend _ _ ?_
   rw [hqe,hxe,YY,if_neg ht]
   exact ⟨rfl,rfl⟩
  have d2:decide ((k:Int)<(m:Int))=true:=by simpa using hlk
  have gL:(UN L)[k]?=some (.v (.bool (L.getD k false))):=Ih (by rw [gE2,gE1 (by omega)];rfl)
  have hol:=WF L O k
  have hot:=X0 L O k
  have hsn:Wt L O (k+1)=Wn (W5 (L.getD k false) k) k (Wt L O k):=rfl
  rw [hOl] at hol
  generalize Wt L O k=o at *
  have hrw:=Wv o k
  have hgo:o[k]?=some (o.getD k []):=by
   rw [gE2,gE1 (by omega)];rfl
  cases hb:L.getD k false with
  | true=>
   rw [hb] at gL hsn
   have hA:Wn (W5 true k) k o=o.set k (o.getD k []++[(0,(k:Int))]):=rfl
   generalize o.getD k []=oc at *
   (refine Ue @d2 ?_;(repeat clear hK K);repeat refine kq fun K hK=>?_)
   refine Uk ?_
   (refine Ue (an @BT (an @hLl @gL)) ?_;(repeat clear hK K);repeat refine kq fun K hK=>?_)
   refine Uk ?_
   (refine CY (an @D1 (an (FT hgo) (an @hol (an @Wl (an @List.length_set.{0} (an @List.set_cons_zero.{0} (an @List.set_cons_succ.{0} (an @List.take_succ_cons.{0} (an @List.take_zero.{0} (an @List.drop_zero.{0} (an @List.length_take.{0} (an @List.length_drop.{0} (an @List.length_append.{0} (an @A4 (an @AA (an @CZ (an @FO (an @Lf (an @Aq (an @WB (an @K5 (an @F1 @FP)))))))))))))))))))))) ?_;(repeat clear hK K);repeat refine kq fun K hK=>?_)
   have hj6:((BD o).set k (C.s 3 (oc.length+1)))[k]?=some (.s 3 (oc.length+1)):=by rw [gEc (by rw [D1];omega)]
   have hset6:((BD o).set k (C.s 3 (oc.length+1))).set k (.o (2,29) (Al (oc++[(0,(k:Int))])))=BD (o.set k (oc++[(0,(k:Int))])):=by rw [Wl,Km]
   refine Um ?_
   refine hK _ (k+1) (by omega) (by omega) ?_
   refine Le.trans (B6 (r:=⟨29,2,true,Ao (oc++[(0,(k:Int))])⟩) (ri:=⟨30,1,true,(BD o).set k (C.s 3 (oc.length+1))⟩) (ts:=Al (oc++[(0,(k:Int))])) 1 k 3 (oc.length+1) (by decide) rfl hj6 rfl rfl (show 0<2 by omega) (by rw [Aq];simp) (Dp _)) ?_
   simp only [hset6,go_sem]
   refine Le.trans (Ad [0,1] rfl rfl) ?_
   (try simp only [List.set_nil,List.take_nil,List.take_zero,List.map_append,go_sem])
   (try simp only [Ea])
   rw [hsn,hA]
   exact Un
  | false=>
   rw [hb] at gL hsn
   have hA:Wn (W5 false k) k o=o:=rfl
   (refine Ue @d2 ?_;(repeat clear hK K);repeat refine kq fun K hK=>?_)
   refine Uk ?_
   (refine Ue (an @BT (an @hLl @gL)) ?_;(repeat clear hK K);repeat refine kq fun K hK=>?_)
   refine Ul ?_
   (refine Ud ?_;(repeat clear hK K);repeat refine kq fun K hK=>?_)
   refine Um ?_
   refine hK _ (k+1) (by omega) (by omega) ?_
   rw [hsn,hA]
   exact Un
 have d1:decide ((s:Int)<(R.length:Int))=true:=by simpa using hlt
 have hgR:=gE1 hlt
 have hrl:=hr _ (gE6 hlt)
 obtain ⟨hfs,hgs⟩:=hcl s hlt
 have gC:=Ap hgs
 have gB:=Ih (hB2 s hlt)
 have hlset:=Yc (B:=B) hfs
 have hll:=Ww f m B s
 have gL:(UC (YU f m B s))[f s]?=some (.v (.bool ((YU f m B s).getD (f s) false))):=Ya (by rw [gE2,gE1 (by omega)];rfl)
 have htot:=WH f m R s hs
 have hto:=Cr hlt
 have htl3:=Ia R (s+1)
 have hbs:=hbd _ (gE6 hlt)
 have htl:Wj f m R (s+1)=Wp f (f s) (Wj f m R s) R[s]:=by
  rw [Wj,gE2,hgR,Option.getD_some]
 generalize hrow:R[s]=row at *
 cases hlb:(YU f m B s).getD (f s) false with
 | true=>
  rw [hlb] at gL hlset
  rw [Bool.true_or] at hlset
  (refine Ue @d1 ?_;(repeat clear hK K);repeat refine kq fun K hK=>?_)
  refine Uk ?_
  (refine CY (an @A6 (an (AQ hgR) (an @A3 (an @hCl (an @gC (an @Lu (an @hll (an @gL (an @BT (an @hBl (an @gB (an @Lw (an @hlset (an @A4 @AA)))))))))))))) ?_;(repeat clear hK K);repeat refine kq fun K hK=>?_)
  refine Ac (fun k:Nat=>{ tm:=[(1,.a (.c (.t 1 (Af cl)))),(2,.a (.c (.p 0 0))),(4,.a (.c (.p 1 0))),(6,.a (.c (.t 1 (UN B)))),(7,.a (.c (.s 2 m))),(8,.a (.c (.s 3 m))),(9,.i s),(11,.i (f s)),(40,.a (.c (.t 1 (Ae R)))),(41,.i R.length),(42,.i s),(64,.a (.c (.t 2 (Al row)))),(65,.i row.length),(66,.i k)],hp:=[.r ⟨24,1,false,[.t 1 (Ae R)]⟩,.r ⟨24,1,false,[.v (.slice none 0 0)]⟩,.r ⟨30,1,true,BD (Wp f (f s) (Wj f m R s) (row.take k))⟩,.r ⟨4,1,true,UC (YU f m B (s+1))⟩],n:=130,pin:=0 }) (fun k=>k<=row.length) (fun k=>row.length - k) 0 ?_ ?_ ?_
  ·omega
  ·simp only [List.take_zero,Wp,List.foldl_nil]
   exact Un
  rintro k hk K hK
  by_cases hlt3:k<row.length
  rotate_left
  ·have d3:decide ((k:Int)<(row.length:Int))=false:=by simpa using hlt3
   have hke3:row.take k=row:=gE7 (by omega)
   rw [hke3,<- htl]
   (refine Ue @d3 ?_;(repeat clear hK K);repeat refine kq fun K hK=>?_)
   refine Ul ?_
   (refine Uh ?_;repeat clear hK K)
   (refine Ud ?_;(repeat clear hK K);repeat refine kq fun K hK=>?_)
   refine Um ?_
   refine hK _ (s+1) (by omega) (by omega) ?_
   exact Un
  have d3:decide ((k:Int)<(row.length:Int))=true:=by simpa using hlt3
  have hat:=AH hlt3
  have hb:=hbs _ (gE6 hlt3)
  have hsn:=WJ f (f s) (Wj f m R s) (row.take k) row[k]
  rw [<- gE8 hlt3] at hsn
  generalize row[k]=a at *
  obtain ⟨e,t⟩:=a
  simp only at hat hb
  obtain ⟨_,_,ht0,ht1⟩:=hb
  obtain ⟨tn,rfl⟩:∃ tn:Nat,t=(tn:Int):=⟨t.toNat,by omega⟩
  have htn:tn<R.length:=by omega
  obtain ⟨hft,hgt⟩:=hcl tn htn
  have gT:=Ap hgt
  have hol:(Wp f (f s) (Wj f m R s) (row.take k)).length=m:=by rw [WE,Wq]
  have hot:=WG f (f s) (row.take k) (Wj f m R s)
  rw [List.length_take] at hot
  generalize Wp f (f s) (Wj f m R s) (row.take k)=o at *
  have hrw:=Wv o (f s)
  have hgo:o[f s]?=some (o.getD (f s) []):=by
   rw [gE2,gE1 (by omega)];rfl
  by_cases hq:e ≠ 0\/f tn ≠ f s
  rotate_left
  ·have hx:W4 f (f s) (e,(tn:Int))=none:=by
    show (if e ≠ 0\/f tn ≠ f s then some (e,(f tn:Int)) else none)=_
    rw [if_neg hq]
   have hA:Wn (W4 f (f s) (e,(tn:Int))) (f s) o=o:=by rw [hx];rfl
   have he:e=0:=Decidable.not_not.1 fun h=>hq (.inl h)
   have hff:f tn=f s:=Decidable.not_not.1 fun h=>hq (.inr h)
   have d4:(e != 0)=false:=by simp [he]
   have d5:((f tn:Int) != (f s:Int))=false:=by simp [hff]
   (refine Ue @d3 ?_;(repeat clear hK K);repeat refine kq fun K hK=>?_)
   refine Uk ?_
   (refine CY (an @hat (an @A4 (an @AA (an @d4 (an @d5 (an @A3 (an @hCl @gT))))))) ?_;(repeat clear hK K);repeat refine kq fun K hK=>?_)
   refine Ul ?_
   (refine Ud ?_;(repeat clear hK K);repeat refine kq fun K hK=>?_)
   refine Um ?_
   refine hK _ (k+1) (by omega) (by omega) ?_
   refine Le.trans (Ad [0,1,2,3] rfl rfl) ?_
   (try simp only [List.set_nil,List.take_nil,List.take_zero,List.map_append,go_sem])
   (try simp only [Gp,Ea])
   rw [hsn,hA]
   exact Un
  have hx:W4 f (f s) (e,(tn:Int))=some (e,(f tn:Int)):=by
   show (if e ≠ 0\/f tn ≠ f s then some (e,(f tn:Int)) else none)=_
   rw [if_pos hq]
  have hA:Wn (W4 f (f s) (e,(tn:Int))) (f s) o=o.set (f s) (o.getD (f s) []++[(e,(f tn:Int))]):=by rw [hx];rfl
  generalize o.getD (f s) []=oc at *
  by_cases he:e=0
  rotate_left
  ·have d4:(e != 0)=true:=by simpa using he
   (refine Ue @d3 ?_;(repeat clear hK K);repeat refine kq fun K hK=>?_)
   refine Uk ?_
   (refine CY (an @hat (an @A4 (an @AA (an @d4 (an @A3 (an @hCl @gT)))))) ?_;(repeat clear hK K);repeat refine kq fun K hK=>?_)
   refine Uk ?_
   (refine Ud ?_;(repeat clear hK K);repeat refine kq fun K hK=>?_)
   (refine B7 [] (.m 0 0 0 (.m 1 0 0 (.m 2 0 0 (.m 3 0 0 (.m 4 0 0 (.m 5 1 15 (.m 6 0 0 (.m 7 1 14 (.m 8 0 0 (.m 9 0 0 (.m 10 1 14 (.m 11 0 0 (.m 12 1 14 (.m 13 0 0 (.a 14 (.a 15 (.m 16 0 0 (.a 17 .e)))))))))))))))))) (by kernel_rfl) (by kernel_rfl) (by intro c st h;simp [Ai,AX,Tz] at h) ?_)
   (refine Ug (an @D1 (an (FT hgo) (an @hol (an @A3 (an @hCl @gT))))) ?_;repeat clear hK K)
   (refine U4 rfl rfl ?_;intro K1 hK1;refine BW rfl ?_;simp only [go_sem];(first | refine hK1 _ ?_ | refine AE (hK1 _ ?_));clear hK1 K1)
   (refine Pq rfl rfl rfl ?_;intro K1 hK1;refine Gd rfl rfl rfl rfl (by first | rfl | simp only [Dn,List.getD_cons_zero,List.getD_cons_succ,hne,List.isEmpty_cons,Bool.not_false,Bool.true_and,Bool.and_true,Bool.and_self]) rfl ?_;simp only [go_sem,Lf,A4,AA,K5,FT hgo];(first | refine hK1 _ ?_ | refine AE (hK1 _ ?_));clear hK1 K1)
   (refine Ug (an @D1 @hol) ?_;repeat clear hK K)
   (refine U5 rfl rfl rfl rfl ?_;intro K1 hK1;refine Ba rfl ?_;simp only [go_sem,D1,List.length_set,Wl,hol];(first | refine hK1 _ ?_ | refine AE (hK1 _ ?_));clear hK1 K1)
   refine CA ⟨by simp,by simp,?_⟩
   (try simp only [Ai,AX])
   refine hK _ ?_
   clear hK K
   have hj6:((BD o).set (f s) (C.s 6 (oc.length+1)))[f s]?=some (.s 6 (oc.length+1)):=by rw [gEc (by rw [D1];omega)]
   have hset6:((BD o).set (f s) (C.s 6 (oc.length+1))).set (f s) (.o (2,29) (Al (oc++[(e,(f tn:Int))])))=BD (o.set (f s) (oc++[(e,(f tn:Int))])):=by rw [Wl,Km]
   refine B1 (B6 (r:=⟨29,2,true,Ao (oc++[(e,(f tn:Int))])⟩) (ri:=⟨30,1,true,(BD o).set (f s) (C.s 6 (oc.length+1))⟩) (ts:=Al (oc++[(e,(f tn:Int))])) 2 (f s) 6 (oc.length+1) (by decide) rfl hj6 rfl rfl (show 0<2 by omega) (by rw [Aq];simp) (Dp _)) ?_
   simp only [hset6,go_sem]
   (refine Ud ?_;(repeat clear hK K);repeat refine kq fun K hK=>?_)
   refine Um ?_
   refine hK _ (k+1) (by omega) (by omega) ?_
   refine Le.trans (Ad [0,1,2,3] rfl rfl) ?_
   (try simp only [List.set_nil,List.take_nil,List.take_zero,List.map_append,go_sem])
   (try simp only [Gp,Ea])
   rw [hsn,hA]
   exact Un
  have d4:(e != 0)=false:=by simp [he]
  have d5:((f tn:Int) != (f s:Int))=true:=by
   have:=hq.resolve_left (by simp [he])
   simp;omega
  (refine Ue @d3 ?_;(repeat clear hK K);repeat refine kq fun K hK=>?_)
  refine Uk ?_
  (refine CY (an @hat (an @A4 (an @AA (an @d4 (an @d5 (an @A3 (an @hCl @gT))))))) ?_;(repeat clear hK K);repeat refine kq fun K hK=>?_)
  refine Uk ?_
  (refine Ud ?_;(repeat clear hK K);repeat refine kq fun K hK=>?_)
  (refine B7 [] (.m 0 0 0 (.m 1 0 0 (.m 2 0 0 (.m 3 0 0 (.m 4 0 0 (.m 5 1 15 (.m 6 0 0 (.m 7 1 14 (.m 8 0 0 (.m 9 0 0 (.m 10 1 14 (.m 11 0 0 (.m 12 1 14 (.m 13 0 0 (.a 14 (.a 15 (.m 16 0 0 (.a 17 .e)))))))))))))))))) (by kernel_rfl) (by kernel_rfl) (by intro c st h;simp [Ai,AX,Tz] at h) ?_)
  (refine Ug (an @D1 (an (FT hgo) (an @hol (an @A3 (an @hCl @gT))))) ?_;repeat clear hK K)
  (refine U4 rfl rfl ?_;intro K1 hK1;refine BW rfl ?_;simp only [go_sem];(first | refine hK1 _ ?_ | refine AE (hK1 _ ?_));clear hK1 K1)
  (refine Pq rfl rfl rfl ?_;intro K1 hK1;refine Gd rfl rfl rfl rfl (by first | rfl | simp only [Dn,List.getD_cons_zero,List.getD_cons_succ,hne,List.isEmpty_cons,Bool.not_false,Bool.true_and,Bool.and_true,Bool.and_self]) rfl ?_;simp only [go_sem,Lf,A4,AA,K5,FT hgo];(first | refine hK1 _ ?_ | refine AE (hK1 _ ?_));clear hK1 K1)
  (refine Ug (an @D1 @hol) ?_;repeat clear hK K)
  (refine U5 rfl rfl rfl rfl ?_;intro K1 hK1;refine Ba rfl ?_;simp only [go_sem,D1,List.length_set,Wl,hol];(first | refine hK1 _ ?_ | refine AE (hK1 _ ?_));clear hK1 K1)
  refine CA ⟨by simp,by simp,?_⟩
  (try simp only [Ai,AX])
  refine hK _ ?_
  clear hK K
  have hj6:((BD o).set (f s) (C.s 6 (oc.length+1)))[f s]?=some (.s 6 (oc.length+1)):=by rw [gEc (by rw [D1];omega)]
  have hset6:((BD o).set (f s) (C.s 6 (oc.length+1))).set (f s) (.o (2,29) (Al (oc++[(e,(f tn:Int))])))=BD (o.set (f s) (oc++[(e,(f tn:Int))])):=by rw [Wl,Km]
  refine B1 (B6 (r:=⟨29,2,true,Ao (oc++[(e,(f tn:Int))])⟩) (ri:=⟨30,1,true,(BD o).set (f s) (C.s 6 (oc.length+1))⟩) (ts:=Al (oc++[(e,(f tn:Int))])) 2 (f s) 6 (oc.length+1) (by decide) rfl hj6 rfl rfl (show 0<2 by omega) (by rw [Aq];simp) (Dp _)) ?_
  simp only [hset6,go_sem]
  (refine Ud ?_;(repeat clear hK K);repeat refine kq fun K hK=>?_)
  refine Um ?_
  refine hK _ (k+1) (by omega) (by omega) ?_
  refine Le.trans (Ad [0,1,2,3] rfl rfl) ?_
  (try simp only [List.set_nil,List.take_nil,List.take_zero,List.map_append,go_sem])
  (try simp only [Gp,Ea])
  rw [hsn,hA]
  exact Un
 | false=>
  rw [hlb] at gL hlset
  rw [Bool.false_or] at hlset
  (refine Ue @d1 ?_;(repeat clear hK K);repeat refine kq fun K hK=>?_)
  refine Uk ?_
  (refine CY (an @A6 (an (AQ hgR) (an @A3 (an @hCl (an @gC (an @Lu (an @hll (an @gL (an @BT (an @hBl (an @gB (an @Lw (an @hlset (an @A4 @AA)))))))))))))) ?_;(repeat clear hK K);repeat refine kq fun K hK=>?_)
  refine Ac (fun k:Nat=>{ tm:=[(1,.a (.c (.t 1 (Af cl)))),(2,.a (.c (.p 0 0))),(4,.a (.c (.p 1 0))),(6,.a (.c (.t 1 (UN B)))),(7,.a (.c (.s 2 m))),(8,.a (.c (.s 3 m))),(9,.i s),(11,.i (f s)),(40,.a (.c (.t 1 (Ae R)))),(41,.i R.length),(42,.i s),(64,.a (.c (.t 2 (Al row)))),(65,.i row.length),(66,.i k)],hp:=[.r ⟨24,1,false,[.t 1 (Ae R)]⟩,.r ⟨24,1,false,[.v (.slice none 0 0)]⟩,.r ⟨30,1,true,BD (Wp f (f s) (Wj f m R s) (row.take k))⟩,.r ⟨4,1,true,UC (YU f m B (s+1))⟩],n:=130,pin:=0 }) (fun k=>k<=row.length) (fun k=>row.length - k) 0 ?_ ?_ ?_
  ·omega
  ·simp only [List.take_zero,Wp,List.foldl_nil]
   exact Un
  rintro k hk K hK
  by_cases hlt3:k<row.length
  rotate_left
  ·have d3:decide ((k:Int)<(row.length:Int))=false:=by simpa using hlt3
   have hke3:row.take k=row:=gE7 (by omega)
   rw [hke3,<- htl]
   (refine Ue @d3 ?_;(repeat clear hK K);repeat refine kq fun K hK=>?_)
   refine Ul ?_
   (refine Uh ?_;repeat clear hK K)
   (refine Ud ?_;(repeat clear hK K);repeat refine kq fun K hK=>?_)
   refine Um ?_
   refine hK _ (s+1) (by omega) (by omega) ?_
   exact Un
  have d3:decide ((k:Int)<(row.length:Int))=true:=by simpa using hlt3
  have hat:=AH hlt3
  have hb:=hbs _ (gE6 hlt3)
  have hsn:=WJ f (f s) (Wj f m R s) (row.take k) row[k]
  rw [<- gE8 hlt3] at hsn
  generalize row[k]=a at *
  obtain ⟨e,t⟩:=a
  simp only at hat hb
  obtain ⟨_,_,ht0,ht1⟩:=hb
  obtain ⟨tn,rfl⟩:∃ tn:Nat,t=(tn:Int):=⟨t.toNat,by omega⟩
  have htn:tn<R.length:=by omega
  obtain ⟨hft,hgt⟩:=hcl tn htn
  have gT:=Ap hgt
  have hol:(Wp f (f s) (Wj f m R s) (row.take k)).length=m:=by rw [WE,Wq]
  have hot:=WG f (f s) (row.take k) (Wj f m R s)
  rw [List.length_take] at hot
  generalize Wp f (f s) (Wj f m R s) (row.take k)=o at *
  have hrw:=Wv o (f s)
  have hgo:o[f s]?=some (o.getD (f s) []):=by
   rw [gE2,gE1 (by omega)];rfl
  by_cases hq:e ≠ 0\/f tn ≠ f s
  rotate_left
  ·have hx:W4 f (f s) (e,(tn:Int))=none:=by
    show (if e ≠ 0\/f tn ≠ f s then some (e,(f tn:Int)) else none)=_
    rw [if_neg hq]
   have hA:Wn (W4 f (f s) (e,(tn:Int))) (f s) o=o:=by rw [hx];rfl
   have he:e=0:=Decidable.not_not.1 fun h=>hq (.inl h)
   have hff:f tn=f s:=Decidable.not_not.1 fun h=>hq (.inr h)
   have d4:(e != 0)=false:=by simp [he]
   have d5:((f tn:Int) != (f s:Int))=false:=by simp [hff]
   (refine Ue @d3 ?_;(repeat clear hK K);repeat refine kq fun K hK=>?_)
   refine Uk ?_
   (refine CY (an @hat (an @A4 (an @AA (an @d4 (an @d5 (an @A3 (an @hCl @gT))))))) ?_;(repeat clear hK K);repeat refine kq fun K hK=>?_)
   refine Ul ?_
   (refine Ud ?_;(repeat clear hK K);repeat refine kq fun K hK=>?_)
   refine Um ?_
   refine hK _ (k+1) (by omega) (by omega) ?_
   refine Le.trans (Ad [0,1,2,3] rfl rfl) ?_
   (try simp only [List.set_nil,List.take_nil,List.take_zero,List.map_append,go_sem])
   (try simp only [Gp,Ea])
   rw [hsn,hA]
   exact Un
  have hx:W4 f (f s) (e,(tn:Int))=some (e,(f tn:Int)):=by
   show (if e ≠ 0\/f tn ≠ f s then some (e,(f tn:Int)) else none)=_
   rw [if_pos hq]
  have hA:Wn (W4 f (f s) (e,(tn:Int))) (f s) o=o.set (f s) (o.getD (f s) []++[(e,(f tn:Int))]):=by rw [hx];rfl
  generalize o.getD (f s) []=oc at *
  by_cases he:e=0
  rotate_left
  ·have d4:(e != 0)=true:=by simpa using he
   (refine Ue @d3 ?_;(repeat clear hK K);repeat refine kq fun K hK=>?_)
   refine Uk ?_
   (refine CY (an @hat (an @A4 (an @AA (an @d4 (an @A3 (an @hCl @gT)))))) ?_;(repeat clear hK K);repeat refine kq fun K hK=>?_)
   refine Uk ?_
   (refine Ud ?_;(repeat clear hK K);repeat refine kq fun K hK=>?_)
   (refine B7 [] (.m 0 0 0 (.m 1 0 0 (.m 2 0 0 (.m 3 0 0 (.m 4 0 0 (.m 5 1 15 (.m 6 0 0 (.m 7 1 14 (.m 8 0 0 (.m 9 0 0 (.m 10 1 14 (.m 11 0 0 (.m 12 1 14 (.m 13 0 0 (.a 14 (.a 15 (.m 16 0 0 (.a 17 .e)))))))))))))))))) (by kernel_rfl) (by kernel_rfl) (by intro c st h;simp [Ai,AX,Tz] at h) ?_)
   (refine Ug (an @D1 (an (FT hgo) (an @hol (an @A3 (an @hCl @gT))))) ?_;repeat clear hK K)
   (refine U4 rfl rfl ?_;intro K1 hK1;refine BW rfl ?_;simp only [go_sem];(first | refine hK1 _ ?_ | refine AE (hK1 _ ?_));clear hK1 K1)
   (refine Pq rfl rfl rfl ?_;intro K1 hK1;refine Gd rfl rfl rfl rfl (by first | rfl | simp only [Dn,List.getD_cons_zero,List.getD_cons_succ,hne,List.isEmpty_cons,Bool.not_false,Bool.true_and,Bool.and_true,Bool.and_self]) rfl ?_;simp only [go_sem,Lf,A4,AA,K5,FT hgo];(first | refine hK1 _ ?_ | refine AE (hK1 _ ?_));clear hK1 K1)
   (refine Ug (an @D1 @hol) ?_;repeat clear hK K)
   (refine U5 rfl rfl rfl rfl ?_;intro K1 hK1;refine Ba rfl ?_;simp only [go_sem,D1,List.length_set,Wl,hol];(first | refine hK1 _ ?_ | refine AE (hK1 _ ?_));clear hK1 K1)
   refine CA ⟨by simp,by simp,?_⟩
   (try simp only [Ai,AX])
   refine hK _ ?_
   clear hK K
   have hj6:((BD o).set (f s) (C.s 6 (oc.length+1)))[f s]?=some (.s 6 (oc.length+1)):=by rw [gEc (by rw [D1];omega)]
   have hset6:((BD o).set (f s) (C.s 6 (oc.length+1))).set (f s) (.o (2,29) (Al (oc++[(e,(f tn:Int))])))=BD (o.set (f s) (oc++[(e,(f tn:Int))])):=by rw [Wl,Km]
   refine B1 (B6 (r:=⟨29,2,true,Ao (oc++[(e,(f tn:Int))])⟩) (ri:=⟨30,1,true,(BD o).set (f s) (C.s 6 (oc.length+1))⟩) (ts:=Al (oc++[(e,(f tn:Int))])) 2 (f s) 6 (oc.length+1) (by decide) rfl hj6 rfl rfl (show 0<2 by omega) (by rw [Aq];simp) (Dp _)) ?_
   simp only [hset6,go_sem]
   (refine Ud ?_;(repeat clear hK K);repeat refine kq fun K hK=>?_)
   refine Um ?_
   refine hK _ (k+1) (by omega) (by omega) ?_
   refine Le.trans (Ad [0,1,2,3] rfl rfl) ?_
   (try simp only [List.set_nil,List.take_nil,List.take_zero,List.map_append,go_sem])
   (try simp only [Gp,Ea])
   rw [hsn,hA]
   exact Un
  have d4:(e != 0)=false:=by simp [he]
  have d5:((f tn:Int) != (f s:Int))=true:=by
   have:=hq.resolve_left (by simp [he])
   simp;omega
  (refine Ue @d3 ?_;(repeat clear hK K);repeat refine kq fun K hK=>?_)
  refine Uk ?_
  (refine CY (an @hat (an @A4 (an @AA (an @d4 (an @d5 (an @A3 (an @hCl @gT))))))) ?_;(repeat clear hK K);repeat refine kq fun K hK=>?_)
  refine Uk ?_
  (refine Ud ?_;(repeat clear hK K);repeat refine kq fun K hK=>?_)
  (refine B7 [] (.m 0 0 0 (.m 1 0 0 (.m 2 0 0 (.m 3 0 0 (.m 4 0 0 (.m 5 1 15 (.m 6 0 0 (.m 7 1 14 (.m 8 0 0 (.m 9 0 0 (.m 10 1 14 (.m 11 0 0 (.m 12 1 14 (.m 13 0 0 (.a 14 (.a 15 (.m 16 0 0 (.a 17 .e)))))))))))))))))) (by kernel_rfl) (by kernel_rfl) (by intro c st h;simp [Ai,AX,Tz] at h) ?_)
  (refine Ug (an @D1 (an (FT hgo) (an @hol (an @A3 (an @hCl @gT))))) ?_;repeat clear hK K)
  (refine U4 rfl rfl ?_;intro K1 hK1;refine BW rfl ?_;simp only [go_sem];(first | refine hK1 _ ?_ | refine AE (hK1 _ ?_));clear hK1 K1)
  (refine Pq rfl rfl rfl ?_;intro K1 hK1;refine Gd rfl rfl rfl rfl (by first | rfl | simp only [Dn,List.getD_cons_zero,List.getD_cons_succ,hne,List.isEmpty_cons,Bool.not_false,Bool.true_and,Bool.and_true,Bool.and_self]) rfl ?_;simp only [go_sem,Lf,A4,AA,K5,FT hgo];(first | refine hK1 _ ?_ | refine AE (hK1 _ ?_));clear hK1 K1)
  (refine Ug (an @D1 @hol) ?_;repeat clear hK K)
  (refine U5 rfl rfl rfl rfl ?_;intro K1 hK1;refine Ba rfl ?_;simp only [go_sem,D1,List.length_set,Wl,hol];(first | refine hK1 _ ?_ | refine AE (hK1 _ ?_));clear hK1 K1)
  refine CA ⟨by simp,by simp,?_⟩
  (try simp only [Ai,AX])
  refine hK _ ?_
  clear hK K
  have hj6:((BD o).set (f s) (C.s 6 (oc.length+1)))[f s]?=some (.s 6 (oc.length+1)):=by rw [gEc (by rw [D1];omega)]
  have hset6:((BD o).set (f s) (C.s 6 (oc.length+1))).set (f s) (.o (2,29) (Al (oc++[(e,(f tn:Int))])))=BD (o.set (f s) (oc++[(e,(f tn:Int))])):=by rw [Wl,Km]
  refine B1 (B6 (r:=⟨29,2,true,Ao (oc++[(e,(f tn:Int))])⟩) (ri:=⟨30,1,true,(BD o).set (f s) (C.s 6 (oc.length+1))⟩) (ts:=Al (oc++[(e,(f tn:Int))])) 2 (f s) 6 (oc.length+1) (by decide) rfl hj6 rfl rfl (show 0<2 by omega) (by rw [Aq];simp) (Dp _)) ?_
  simp only [hset6,go_sem]
  (refine Ud ?_;(repeat clear hK K);repeat refine kq fun K hK=>?_)
  refine Um ?_
  refine hK _ (k+1) (by omega) (by omega) ?_
  refine Le.trans (Ad [0,1,2,3] rfl rfl) ?_
  (try simp only [List.set_nil,List.take_nil,List.take_zero,List.map_append,go_sem])
  (try simp only [Gp,Ea])
  rw [hsn,hA]
  exact Un
def YZ (x:List (List Ar)) (r:AV) (o:List Ob):Prop:=o=[.r ⟨24,1,false,[.t 1 (Ae x)]⟩]/\r=.tup [.g [.t 1 (Ae x)],.c (.v (.int .i64 0))]
theorem YH (R:List (List Ar)) (cl:List Int) (hv:Bg R=true) (hC:WR cl R.length=true) (hn:R.length<=100) (ht:BP R<=1000) (hr:∀ r∈R,r.length<=1000000):FC Tryd.prog 27 [BS R,AK cl] [] (fun r o=>∃ B,DvL R B/\YZ (CG (qR R cl B)).1 r o):=by
 refine (YG R cl hv hC (by omega) hr).mono ?_
 intro r0 o0 ⟨B,hB,h0⟩
 have hlo:Br R=true:=gEg (gE4 hv).1
 obtain ⟨b1,b2,b3⟩:=XK (B:=B) hlo hC
 have hm1:1<=YT cl:=by have:=((Wy hC).2.2.1 0 (gE4 hlo).1).1;omega
 have hmn:=(Wy hC).2.1
 have hlq:Br (qR R cl B)=true:=gEg ⟨by omega,by show (qR R cl B).length<=16384;omega,by show BP (qR R cl B)<=262144;omega,b2⟩
 have htX:=Wm hlq
 rw [YY,if_pos (by omega)] at h0
 exact ⟨B,hB,h0⟩
set_option maxHeartbeats 1000000 in
theorem XZ (R:List (List Ar)) (hv:Bg R=true) (hn:R.length<=64) (ht:BP R<=1000) (hr:∀ r∈R,r.length<=1000000):FC Tryd.prog 12 [BS R] [] (fun r o=>∃ c B,WkC R c/\Nrm R.length c/\DvL R B/\YZ (CG (qR R c B)).1 r o):=by
 refine A8 Tryd.func12 rfl (by rw [Tryd.ntmps12];simp) ?_
 rw [Tryd.ntmps12]
 simp only [Bs,BS]
 (refine Ud ?_;(repeat clear hK K);repeat refine kq fun K hK=>?_)
 (refine C2 [] [(0,1,3),(1,1,2),(2,2,0),(3,2,0),(4,0,0),(5,0,0),(6,2,0),(7,2,0)] (by kernel_rfl) (by kernel_rfl) (by intro c st h;simp [Ai,AX,Tz] at h) ?_)
 (refine Ub ?_;repeat clear hK K)
 (refine U0 rfl rfl ?_;intro K1 hK1;refine Bb ?_;refine xv [] (RQ R hv hn hr) ?_ ?_)
 ·rintro _ _ ⟨_,_,_,rfl,rfl⟩ i o hi hl;simp at hl
 rintro _ _ ⟨c,hc,hN,rfl,rfl⟩
 (refine Uj ?_;clear hK1 K1)
 (refine Ub ?_;repeat clear hK K)
 (refine U0 rfl rfl ?_;intro K1 hK1;refine Bb ?_;refine xv [] (YH R c hv hN.num (by omega) ht hr) ?_ ?_)
 ·rintro _ _ ⟨_,_,rfl,rfl⟩ i o hi hl;simp at hl
 rintro _ _ ⟨B,hB,rfl,rfl⟩
 have hend:∀ r o,YZ (CG (qR R c B)).1 r o->∃ c B,WkC R c/\Nrm R.length c/\DvL R B/\YZ (CG (qR R c B)).1 r o:=fun r o h=>⟨c,B,hc,hN,hB,h⟩
 generalize (CG (qR R c B)).1=x at *
 (refine Uj ?_;clear hK1 K1)
 (refine Ub ?_;repeat clear hK K)
 (refine U1 rfl rfl rfl ?_;intro K1 hK1;refine Ba rfl ?_;simp only [go_sem,ST.put,De,A0.cells];(first | refine hK1 _ ?_ | refine AE (hK1 _ ?_));clear hK1 K1)
 (refine U1 rfl rfl rfl ?_;intro K1 hK1;refine Ba rfl ?_;simp only [go_sem];(first | refine hK1 _ ?_ | refine AE (hK1 _ ?_));clear hK1 K1)
 (refine Ub ?_;repeat clear hK K)
 (refine Ud ?_;(repeat clear hK K);repeat refine kq fun K hK=>?_)
 refine Uo [1] Tryd.results12 ?_
 exact hend _ _ ⟨rfl,rfl⟩
def We:List (List Ar):=[[(2,1),(3,2)],[],[]]
def Wf:List (List Ar):=[[(0,1),(2,2),(3,2)],[],[]]
def Wg:List (List Ar):=[[(3,1)],[]]
def Wh:List (List Ar):=[[(0,1),(3,2)],[],[]]
theorem SH:(CG (We.map (Wc [(2,3)]))).1=Wg:=by kernel_rfl
theorem SI:(CG (Wf.map (Wc [(2,3)]))).1=Wh:=by kernel_rfl
theorem SK:Bg We=true:=by kernel_rfl
theorem SL:Bg Wf=true:=by kernel_rfl
theorem SU:KE [(2,3)]=true:=by kernel_rfl
theorem SV:SortA [(2,3)]:=by simp [SortA]
set_option maxHeartbeats 2000000 in
theorem MN:FC Tryd.prog 8 [] [] (fun r _=>r=.b true):=by
 refine A8 Tryd.func8 rfl (by rw [Tryd.ntmps8];simp) ?_
 rw [Tryd.ntmps8]
 simp only [Bs]
 have hpA:=MK We [(2,3)] SK (by decide) (by decide) (by decide) SU SV (by decide) (by decide)
 have hpB:=MK Wf [(2,3)] SL (by decide) (by decide) (by decide) SU SV (by decide) (by decide)
 rw [SH] at hpA
 rw [SI] at hpB
 have hsC:=Iz Wg (by decide) (by decide)
 have hsD:=Iz Wh (by decide) (by decide)
 simp only [BS,CH] at hpA hpB hsC hsD
 (refine Nh ?_;(repeat clear hK K);repeat refine kq fun K hK=>?_)
 refine B3 (B6 (r:=⟨29,2,true,Ao [(2,1),(3,2)]⟩) (ts:=Al [(2,1),(3,2)]) 2 0 1 2 (by decide) rfl rfl rfl rfl (show 0<2 by omega) rfl (Dp _)) ?_
 simp only [go_sem]
 refine B3 (Ig 2 [2,2,2] rfl) ?_
 simp only [UM,TF,go_sem]
 (refine B3 (Bh (r:=⟨30,1,true,Bd We⟩) 2 (Ae We) rfl (F4 _) (show 0<(1:Nat) by omega)) ?_;simp only [ST.frz,A0.frz,AV.frz,C.frz,Nat.le_refl,List.set_cons_zero,List.set_cons_succ,go_sem,show (Ae We).take 3=Ae We from rfl,show (if 3<=(Ae We).length then C.t 1 (Ae We) else C.u)=C.t 1 (Ae We) from rfl])
 (refine B3 (Bh (r:=⟨52,2,true,Ao [(2,3)]⟩) 0 (Al [(2,3)]) rfl (Dp _) (show 0<(2:Nat) by omega)) ?_;simp only [ST.frz,A0.frz,AV.frz,C.frz,Nat.le_refl,List.set_cons_zero,List.set_cons_succ,go_sem,show (Al [(2,3)]).take (1*2)=Al [(2,3)] from rfl,show (Al [(2,3)]).take 2=Al [(2,3)] from rfl,show (if 1*2<=(Al [(2,3)]).length then C.t 2 (Al [(2,3)]) else C.u)=C.t 2 (Al [(2,3)]) from rfl,show (if 2<=(Al [(2,3)]).length then C.t 2 (Al [(2,3)]) else C.u)=C.t 2 (Al [(2,3)]) from rfl])
 (refine Ui hpA ?_;intro K1 hK1)
 rintro _ _ ⟨rfl,rfl⟩
 (refine Uj ?_;clear hK1 K1)
 (refine Nh ?_;(repeat clear hK K);repeat refine kq fun K hK=>?_)
 refine B3 (B6 (r:=⟨29,2,true,Ao [(0,1),(2,2),(3,2)]⟩) (ts:=Al [(0,1),(2,2),(3,2)]) 6 0 5 3 (by decide) rfl rfl rfl rfl (show 0<2 by omega) rfl (Dp _)) ?_
 simp only [go_sem]
 refine B3 (Ig 6 [2,2,2] rfl) ?_
 simp only [UM,TF,go_sem]
 (refine B3 (Bh (r:=⟨30,1,true,Bd Wf⟩) 6 (Ae Wf) rfl (F4 _) (show 0<(1:Nat) by omega)) ?_;simp only [ST.frz,A0.frz,AV.frz,C.frz,Nat.le_refl,List.set_cons_zero,List.set_cons_succ,go_sem,show (Ae Wf).take 3=Ae Wf from rfl,show (if 3<=(Ae Wf).length then C.t 1 (Ae Wf) else C.u)=C.t 1 (Ae Wf) from rfl])
 (refine Ui hpB ?_;intro K1 hK1)
 rintro _ _ ⟨rfl,rfl⟩
 (refine Uj ?_;clear hK1 K1)
 (refine Nh ?_;(repeat clear hK K);repeat refine kq fun K hK=>?_)
 refine B3 (B6 (r:=⟨29,2,true,Ao [(3,1)]⟩) (ts:=Al [(3,1)]) 10 0 9 1 (by decide) rfl rfl rfl rfl (show 0<2 by omega) rfl (Dp _)) ?_
 simp only [go_sem]
 refine B3 (Ig 10 [2,2] rfl) ?_
 simp only [UM,TF,go_sem]
 (refine B3 (Bh (r:=⟨30,1,true,Bd Wg⟩) 10 (Ae Wg) rfl (F4 _) (show 0<(1:Nat) by omega)) ?_;simp only [ST.frz,A0.frz,AV.frz,C.frz,Nat.le_refl,List.set_cons_zero,List.set_cons_succ,go_sem,show (Ae Wg).take 2=Ae Wg from rfl,show (if 2<=(Ae Wg).length then C.t 1 (Ae Wg) else C.u)=C.t 1 (Ae Wg) from rfl])
 (refine Dm rfl rfl (by simp only [go_sem] <;> rfl) ?_;intro K1 hK1;refine (Bu (ids:=[]) (hsC) rfl rfl (by simp only [go_sem]) (by kernel_rfl) (by (simp only [List.append_nil,go_sem]) <;> rfl) ?_).stp)
 rintro _ _ ⟨rfl,rfl⟩
 (refine Uj ?_;clear hK1 K1)
 (refine Nh ?_;(repeat clear hK K);repeat refine kq fun K hK=>?_)
 refine B3 (B6 (r:=⟨29,2,true,Ao [(0,1),(3,2)]⟩) (ts:=Al [(0,1),(3,2)]) 12 0 11 2 (by decide) rfl rfl rfl rfl (show 0<2 by omega) rfl (Dp _)) ?_
 simp only [go_sem]
 refine B3 (Ig 12 [2,2,2] rfl) ?_
 simp only [UM,TF,go_sem]
 (refine B3 (Bh (r:=⟨30,1,true,Bd Wh⟩) 12 (Ae Wh) rfl (F4 _) (show 0<(1:Nat) by omega)) ?_;simp only [ST.frz,A0.frz,AV.frz,C.frz,Nat.le_refl,List.set_cons_zero,List.set_cons_succ,go_sem,show (Ae Wh).take 3=Ae Wh from rfl,show (if 3<=(Ae Wh).length then C.t 1 (Ae Wh) else C.u)=C.t 1 (Ae Wh) from rfl])
 (refine Dm rfl rfl (by simp only [go_sem] <;> rfl) ?_;intro K1 hK1;refine (Bu (ids:=[]) (hsD) rfl rfl (by simp only [go_sem]) (by kernel_rfl) (by (simp only [List.append_nil,go_sem]) <;> rfl) ?_).stp)
 rintro _ _ ⟨rfl,rfl⟩
 (refine Uj ?_;clear hK1 K1)
 (refine Ud ?_;(repeat clear hK K);repeat refine kq fun K hK=>?_)
 exact L9 Tryd.results8
theorem Y0 (T : List Int) (hT : TpOk T) (a0 : Nat) (ha : a0 <= 500000) :
  FC Tryd.prog 10 [.a (.c (.p 0 0)), .i 8] [tape T a0] (fun r o => ∃ (a' : Nat) (R : List (List Ar)), (o = [tape T a', Yu R] /\ r = BS R) /\ a' <= a0 + 70 /\ Bg R = true /\ R.length <= 8 /\ BP R <= 200 /\ ∀ r ∈ R, r.length <= 1000000) :=
 (XO T hT a0 8 ha (by omega) (by omega)).mono fun r o ⟨a', R, h0, h1, h2, h3, h4, h5⟩ => by
  obtain ⟨q1, q2, q3⟩ := Yy h5 rfl h3 (by omega) (by omega)
  exact ⟨a', R, ⟨h0, h1⟩, by omega, q1, h4, q2, fun r hr => by have := q3 r hr; omega⟩
theorem XA:∀ o∈Xw,KE o=true/\o.length<=3/\(∀ a∈o,2<=a.1/\0<=a.2/\Da a.1=true):=by decide
theorem XC:∀ o∈Xw,SortA o:=fun o ho=>(gE4 (XA o ho).1).1
set_option maxHeartbeats 8000000 in
theorem XD (T:List Int) (hT:TpOk T):FC Tryd.prog 4 [AK T] [] (fun r _=>r=.b true):=by
 refine A8 Tryd.func4 rfl (by rw [Tryd.ntmps4];simp) ?_
 rw [Tryd.ntmps4]
 simp only [Bs,AK]
 (refine Ud ?_;(repeat clear hK K);repeat refine kq fun K hK=>?_)
 (refine Ui (Yr T) ?_;intro K1 hK1)
 rintro _ _ ⟨rfl,rfl⟩
 (simp only [AK,CB,tape,List.append_nil,List.nil_append,List.length_map,go_sem];refine hK1 _ ?_;clear hK1 K1)
 (refine Ud ?_;(repeat clear hK K);repeat refine kq fun K hK=>?_)
 refine Ac (fun p:Nat × Nat=>{ tm:=[(3,.a (.c (.p 0 0))),(4,.i p.1)],hp:=[.r ⟨54,2,false,[.t 1 (Af T),.v (.int .i64 p.2)]⟩],n:=57,pin:=0 }) (fun p=>p.1<=3/\p.2<=300*p.1) (fun p=>3 - p.1) (0,0) ?_ ?_ ?_
 ·exact ⟨by simp,by simp⟩
 ·exact Un
 rintro ⟨k,a⟩ ⟨hk,ha⟩ K hK
 simp only at hk ha ⊢
 (refine Ud ?_;(repeat clear hK K);repeat refine kq fun K hK=>?_)
 (refine Aw ?_;intro X Y hX hY;simp only [go_sem])
 refine ⟨fun h=>hX ?_,fun h=>hY ?_⟩
 rotate_left
 ·clear hX hY X Y
  (refine Uh ?_;repeat clear hK K)
  (refine Ud ?_;(repeat clear hK K);repeat refine kq fun K hK=>?_)
  (refine Ui MN ?_;intro K1 hK1)
  rintro _ _ rfl
  (refine Uj ?_;clear hK1 K1)
  (refine Ud ?_;(repeat clear hK K);repeat refine kq fun K hK=>?_)
  exact L9 Tryd.results4
 have hlt:k<3:=by simp at h;omega
 clear hX hY X Y h
 (refine Ud ?_;(repeat clear hK K);repeat refine kq fun K hK=>?_)
 (refine A9 rfl ?_;intro K1 hK1;refine ct [0] (Y0 T hT a (by omega)) ?_ ?_)
 ·rintro _ _ ⟨_,_,⟨rfl,rfl⟩,_⟩;rfl
 rintro _ _ ⟨a1,R,⟨rfl,rfl⟩,ha1,hv,hRn,hRt,hRr⟩
 (simp only [AK,CB,tape,Yu,BS,List.append_nil,List.nil_append,List.length_map,go_sem];refine hK1 _ ?_;clear hK1 K1)
 (refine Nh ?_;(repeat clear hK K);repeat refine kq fun K hK=>?_)
 (refine A9 rfl ?_;intro K1 hK1;refine ct [0] (XT T hT a1 (by omega)) ?_ ?_)
 ·rintro _ _ ⟨rfl,_,_,rfl⟩;rfl
 rintro _ _ ⟨rfl,o,ho,rfl⟩
 (simp only [AK,CB,tape,CH,List.append_nil,List.nil_append,List.length_map,go_sem];refine hK1 _ ?_;clear hK1 K1)
 (refine Ud ?_;(repeat clear hK K);repeat refine kq fun K hK=>?_)
 obtain ⟨ho1,ho2,ho3⟩:=XA o ho
 have ho4:=XC o ho
 have hoc:∀ a∈o,2<=a.1:=fun a h=>(ho3 a h).1
 have ho5:∀ a∈o,0<=a.2:=fun a h=>(ho3 a h).2.1
 have ho6:∀ a∈o,Da a.1=true:=fun a h=>(ho3 a h).2.2
 have hwc:=XZ R hv (by omega) (by omega) hRr
 simp only [BS] at hwc
 (refine Ui hwc ?_;intro K1 hK1)
 intro r0 o0 ⟨c,B,hc,hN,hB,h⟩
 obtain ⟨Z,hZe⟩:∃ Z,(CG (qR R c B)).1=Z:=⟨_,rfl⟩
 obtain ⟨hZv,hZl,hZt,hEq⟩:=XX hv (by omega) (by omega) hc hN hB hoc hZe.symm
 rw [hZe] at h
 obtain ⟨rfl,rfl⟩:=h
 clear hc hN hB hZe
 have hZr:∀ r∈Z,r.length<=1000000:=fun r hr=>by have:=Wo r hr;omega
 have hp1:=MK R o hv (by omega) hRr (by omega) ho1 ho4 ho5 ho6
 have hp2:=MK Z o hZv (by omega) hZr (by omega) ho1 ho4 ho5 ho6
 have l1:Br (R.map (Wc o))=true:=S0 o hv
 have l2:Br (Z.map (Wc o))=true:=S0 o hZv
 have v1:=Wk l1
 have v2:=Wk l2
 have t1:=Wm l1
 have t2:=Wm l2
 have t3:=MJ o R
 have t4:=MJ o Z
 have b1:=(Wu (R:=R.map (Wc o)) (B:=BP (R.map (Wc o))) (gE4 l1).1 (fun r hr a ha=>by have:=(gE4 l1).2.2.2 r hr a ha;exact ⟨this.2.2.1,this.2.2.2⟩) (fun r hr=>Wo r hr)).1
 have b2:=(Wu (R:=Z.map (Wc o)) (B:=BP (Z.map (Wc o))) (gE4 l2).1 (fun r hr a ha=>by have:=(gE4 l2).2.2.2 r hr a ha;exact ⟨this.2.2.1,this.2.2.2⟩) (fun r hr=>Wo r hr)).1
 rw [List.length_map] at b1 b2
 clear l1 l2
 generalize (CG (R.map (Wc o))).1=P at *
 generalize (CG (Z.map (Wc o))).1=Q at *
 have hwe:=Yz P Q v1 v2 (by omega) (by omega) (fun r hr=>by have:=Wo r hr;omega) (fun r hr=>by have:=Wo r hr;omega)
 rw [hEq] at hwe
 simp only [BS,CH] at hp1 hp2 hwe
 (refine Uj ?_;clear hK1 K1)
 (refine Nh ?_;(repeat clear hK K);repeat refine kq fun K hK=>?_)
 (refine Ui hp1 ?_;intro K1 hK1)
 rintro _ _ ⟨rfl,rfl⟩
 (refine Uj ?_;clear hK1 K1)
 (refine Nh ?_;(repeat clear hK K);repeat refine kq fun K hK=>?_)
 (refine Ui hp2 ?_;intro K1 hK1)
 rintro _ _ ⟨rfl,rfl⟩
 (refine Uj ?_;clear hK1 K1)
 (repeat (first | (refine Au ?_;intro K hK) | refine Ah ?_ | refine Aa ?_ | (refine B4 rfl rfl ?_;intro K1 hK1;simp only [go_sem,ST.put,De,A0.cells,bne_self_eq_false,Bool.false_eq_true,if_false];(first | refine hK1 _ ?_ | refine AE (hK1 _ ?_));clear hK1 K1) | ((first | refine Ab ?_ | refine Aj ?_);refine hK _ ?_;clear hK K)))
 (refine Dm rfl rfl (by simp only [go_sem] <;> rfl) ?_;intro K1 hK1;refine (Bu (ids:=[]) (hwe) rfl rfl (by simp only [go_sem]) (by kernel_rfl) (by (simp only [List.append_nil,go_sem]) <;> rfl) ?_).stp)
 rintro _ _ ⟨rfl,rfl⟩
 (refine Uj ?_;clear hK1 K1)
 (repeat (first | (refine Au ?_;intro K hK) | refine Ah ?_ | refine Aa ?_ | (refine B4 rfl rfl ?_;intro K1 hK1;simp only [go_sem,Bool.not_true,bne_self_eq_false,Bool.false_eq_true,if_false];(first | refine hK1 _ ?_ | refine AE (hK1 _ ?_));clear hK1 K1) | ((first | refine Ab ?_ | refine Aj ?_);refine hK _ ?_;clear hK K)))
 refine Ul ?_
 (refine Ud ?_;(repeat clear hK K);repeat refine kq fun K hK=>?_)
 refine Um ?_
 refine hK _ (k+1,a1+1) ⟨by simp only;omega,by simp only;omega⟩ (by simp only;omega) ?_
 refine Le.trans (Ad [0] rfl rfl) ?_
 (try simp only [List.set_nil,List.take_nil,List.take_zero,List.map_append,go_sem])
 exact Un
open Go.RowKit Go.Deep Go.ChangeShapes
theorem QK {w:World} {a:Addr} {v:Value} (h:w.cell? a=some v):a.spot=none/\a.block<w.heap.size:=by
 constructor
 rotate_left
 ·rcases Nat.lt_or_ge a.block w.heap.size with hl | hl
  ·exact hl
  simp [World.cell?,Array.getElem?_eq_none hl] at h
 unfold World.cell? at h
 split at h
 rotate_left
 ·cases h
 split at h
 ·cases h
 rename_i hs;cases hsp:a.spot with
 | none=>rfl
 | some x=>simp [hsp] at hs
variable {H : Type} {enc : TypeId × Value -> H}
end Go.Proofs.YtjijjfkalheokaaDoor
namespace Go.Proofs.YtjijjfkalheokaaDoor
set_option linter.unusedVariables false
set_option linter.unusedSimpArgs false
open Go.RowKit Go.Deep Go.ChangeShapes Go.WideShapes

def Z0:Nat->Prop:=fun _=>False
variable {H : Type} {enc : TypeId × Value -> H}
theorem Yn {P:Program} {w:World} {t e:TypeId} {fuel:Nat} {v:Value} {x:DataW H × List MemPlace} (ht:P.underlying t=some (.slice e)) (he:P.underlying e=some (.int .i64)) (hc:P.cellsOf e=1) (h:DataW.trod enc P w 0 (fun _=>true) true fuel t [v]=some x):
  ∃ zs,Rd Z0 w (.l 1 (Af zs)) v/\zs.length<=9223372036854775807/\∀ y∈zs,MP y:=by
 rcases open_ints ht he hc h with ⟨hcs,_⟩ | ⟨a,l,c,zs,hcs,_,hl,hm,hz,_,hcell,hwz⟩
 ·simp at hcs;subst hcs
  exact ⟨[],.e _ _ _,by simp,by simp⟩
 simp at hcs;subst hcs
 have hzl:zs.length=c:=by simpa using hz
 simp only [maxLen] at hm
 refine ⟨zs.take l,?_,by simp;omega,fun y hy=>?_⟩
 rotate_left
 ·have:=hwz y (List.mem_of_mem_take hy)
  have h2 : -9223372036854775808<=y/\y<=9223372036854775807:=by simpa [Lit.wf,IntKind.min,IntKind.max,IntKind.signed,IntKind.bits] using this
  exact ⟨h2.1,by omega⟩
 rcases Nat.eq_zero_or_pos l with h0 | h0
 ·subst h0;exact .e _ _ _
 have hX0:=hcell 0 (by omega)
 simp [Addr.add] at hX0
 obtain ⟨hsp,hlt⟩:=QK hX0
 obtain ⟨b,off,rfl⟩:∃ b off,a=⟨b,off,none⟩:=⟨a.block,a.off,by cases a;simp at hsp;subst hsp;rfl⟩
 have hadd:∀ q,(⟨b,off,none⟩:Addr).add q=⟨b,off+q,none⟩:=fun q=>by unfold Addr.add;split <;> simp_all
 refine .l 1 _ b off l c (fun j=>.int .i64 (zs.getD j 0)) (by simp [Af];omega) h0 hl (fun h=>h) hlt (fun j t hj=>?_) (fun j t hj=>?_)
 ·have hj2:j<l:=by
   have:=(List.getElem?_eq_some_iff.1 hj).1
   simp [Af] at this;omega
  rw [<- hadd];exact hcell j (by omega)
 have hj2:j<l:=by
  have:=(List.getElem?_eq_some_iff.1 hj).1
  simp [Af] at this;omega
 simp only [Af,List.getElem?_map,List.getElem?_take,if_pos hj2] at hj
 rw [gE1 (by omega)] at hj
 simp at hj
 subst hj
 rw [List.getD,gE1 (by omega)]
 exact .v _ rfl
theorem XE {P:Program} {f:FuncId} {args:List AV} (h:FC P f args [] (fun r _=>r=.b true)) (W:World) (vals:List Value) (hl:vals.length=args.length)
  (ha:∀ (i:Nat) (x:AV),args[i]?=some x->∃ v,vals[i]?=some v/\∀ g:Gh,g.M=Z0->AVR (CR g [] W) x v) (hgl:GlR Z0 W:=by intro n vs h;cases h):Calls P f vals.toArray W fun e W'=>e=.returned (.bool true)/\Fr [] W W':=by
 let g:Gh:=⟨fun _=>0,fun _=>0,Z0⟩
 have lv:∀ ℓ,¬ Lv [] g ℓ:=by
  intro ℓ hl
  cases ℓ with
  | ob i=>rcases hl with ⟨r,e,_⟩ | ⟨kv,e⟩ <;> simp at e
  | cl i j=>obtain ⟨r,k,cs,e,_⟩:=hl;simp at e
 have hr:HR g [] W:=⟨fun b hb=>hb.elim,fun ℓ hl=>(lv ℓ hl).elim,fun ℓ _ hl _ _=>(lv ℓ hl).elim,fun id r e=>by simp at e,fun id kv e=>by simp at e,hgl.keep (Nat.le_refl _) (fun _ _ _=>rfl) (fun k _ ho=>ho.elim (fun h=>h) (fun ⟨ℓ,hl,_⟩=>(lv ℓ hl).elim))⟩
 refine (h g W vals hr ⟨hl,fun i x hx=>by obtain ⟨v,h1,h2⟩:=ha i x hx;exact ⟨v,h1,h2 g rfl⟩⟩).mono ?_
 rintro e W' ⟨v,r,outs,g',rfl,rfl,_,_,_,hv,hf⟩
 exact ⟨by rw [show v=.bool true from hv],hf.fr fun k _ ⟨ℓ,hl,_⟩=>(lv ℓ hl).elim⟩
theorem Yo {g:Gh} (h:g.M=Z0) {b:Nat}:¬ Ow [] g b:=by
 rintro (ho | ⟨ℓ,hl,_⟩)
 ·rw [h] at ho;exact ho
 cases ℓ with
 | ob i=>rcases hl with ⟨r,e,_⟩ | ⟨kv,e⟩ <;> simp at e
 | cl i j=>obtain ⟨r,k,cs,e,_⟩:=hl;simp at e
theorem YI {g:Gh} {W:World} {k:Nat} {cs:List Tr} {v:Value} (h:Rd Z0 W (.l k cs) v) (hg:g.M=Z0):AVR (CR g [] W) (.a (.c (.t k cs))) v:=h.mono fun _ _ ho=>absurd ho (Yo hg)
theorem T6:ownKnob Tryd.prog.godebug=none:=by kernel_rfl
theorem Y1:laidOutB Tryd.prog=true:=by kernel_rfl
end Go.Proofs.YtjijjfkalheokaaDoor
namespace Go.Proofs.YtjijjfkalheokaaDoor
set_option linter.unusedVariables false
set_option linter.unusedSimpArgs false
open Go.ChangeShapes Go.WideShapes Go.ChangeAt Go.RowKit

def OA:List Int:=Lib.deBruijn64tab.map fun (k:Nat)=>(k:Int)
def MO:List (String × DataW Unit):=[("math/bits.deBruijn64tab",Lib.tabData .u8 OA)]
theorem SW:Tryd.prog.globalNamed "math/bits.deBruijn64tab" = some 0:=by kernel_rfl
theorem IA {W:World} (h:laidMetH Tryd.prog MO W):GlR (fun _=>False) W:=by
 rw [MakeChecks.laidMetH_plain _ _ _ (by kernel_rfl)] at h
 have hT:=Lib.tabIs_of_head (n:=64) (k:=.u8) SW (by kernel_rfl) Tryd.underlying158 Tryd.underlying5 (by kernel_rfl) (by kernel_rfl) h
 intro n vs hn
 unfold P8 at hn
 rw [List.lookup_cons] at hn
 split at hn
 rotate_left
 ·cases hn
 rename_i e
 have e2:n=0:=by simpa using e
 subst e2
 cases hn
 have hl:(Lib.deBruijn64tab).length=64:=by decide
 have hc:∀ j,j<64->W.cell? ⟨0,j,none⟩=some (.int .u8 (OA.getD j 0)):=fun j hj=>hT.cell SW j (by simp [OA,hl,hj])
 refine ⟨fun h=>h,(QK (hc 0 (by omega))).2,fun j v hj=>?_⟩
 rw [List.getElem?_map,Option.map_eq_some_iff] at hj
 obtain ⟨k,hk,rfl⟩:=hj
 have hj2:j<64:=by have:=(List.getElem?_eq_some_iff.1 hk).1;omega
 refine ⟨rfl,?_⟩
 rw [hc j hj2]
 simp [OA,gE2,hk]
end Go.Proofs.YtjijjfkalheokaaDoor
