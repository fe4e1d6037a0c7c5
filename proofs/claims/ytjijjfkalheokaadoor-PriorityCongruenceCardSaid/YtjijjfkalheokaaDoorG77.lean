/- Lemmas. -/
import Derived.Test.YtjijjfkalheokaaDoorZk
import Derived.Test.YtjijjfkalheokaaDoorG45
import Derived.Test.YtjijjfkalheokaaDoorG67
import Derived.Test.YtjijjfkalheokaaDoorMD
namespace Go.Proofs.YtjijjfkalheokaaDoor
set_option linter.unusedVariables false
set_option linter.unusedSimpArgs false
open Go.RowKit
set_option maxRecDepth 100000
attribute [local go_sem] lga C.pl C.one

def Ml (f:Nat->Nat) (E:List Ed) (k:Nat):List Nat:=(List.range k).filter fun s=>decide (f s=s) && Vg E s == 0
theorem Mm (f:Nat->Nat) (E:List Ed) (k:Nat):Ml f E (k+1)=Ml f E k++if f k=k/\Vg E k=0 then [k] else []:=by
 unfold Ml
 rw [List.range_succ,List.filter_append]
 by_cases h1:f k=k <;> by_cases h2:Vg E k=0 <;> simp [h1,h2]
theorem Oc (f:Nat->Nat) (E:List Ed) (k:Nat):(Ml f E k).length<=k:=by
 have:=List.length_filter_le (fun s=>decide (f s=s) && Vg E s == 0) (List.range k)
 rwa [List.length_range] at this
theorem Kh.start {E:List Ed} {n:Nat} {f:Nat->Nat}:Kh E n f 0 0 (Ml f E n) (Vh n E):=by
 refine ⟨Fe _ _,fun c hc=>?_,(List.nodup_range).filter _,fun c hc=>?_,fun c hc hf=>?_,fun j c hj e he h1=>?_⟩
 ·rw [Gx hc];simp [PY]
 ·have:=List.mem_filter.1 hc
  simp only [List.mem_range,Bool.and_eq_true,decide_eq_true_eq] at this
  exact ⟨this.1,this.2.1⟩
 ·rw [Gx hc]
  unfold Ml
  rw [List.mem_filter]
  simp only [List.mem_range,Bool.and_eq_true,decide_eq_true_eq,beq_iff_eq]
  constructor
  ·rintro ⟨_,_,h⟩;rw [h];rfl
  intro h;injection h with h;exact ⟨hc,hf,by omega⟩
 have hin:=gE9 hj
 have h2:=(List.mem_filter.1 hin).2
 simp only [Bool.and_eq_true,decide_eq_true_eq,beq_iff_eq] at h2
 have h3:Vg E c=0:=h2.2
 unfold Vg at h3
 rw [List.countP_eq_zero] at h3
 exact absurd (by simpa using h1) (h3 e he)
set_option maxHeartbeats 8000000 in
theorem RI (R:List (List Ar)) (D:List Int) (f rk:Nat->Nat) (hlo:∀ r∈R,∀ a∈r,0<=a.2/\a.2<(R.length:Int)) (htot:BP R<=1000000) (hDl:D.length=R.length) (hD:∀ v,v<R.length->D[v]?=some (f v:Int)/\f v<R.length) (hE:∀ e∈Vf f R R.length,(e.1<R.length/\f e.1=e.1)/\e.2<R.length/\f e.2=e.2/\rk e.2<rk e.1) (hn:R.length<=1000000) (hr:∀ r∈R,r.length<=1000000):FC Tryd.prog 56 [BS R,AK D] [] (fun r o=>∃ Q,Gy (Vf f R R.length) R.length f Q/\r=.a (.c (.s 0 Q.length))/\o=[Am (Q.map Int.ofNat)]):=by
 refine A8 Tryd.func56 rfl (by rw [Tryd.ntmps56];simp) ?_
 rw [Tryd.ntmps56]
 simp only [Bs,BS,AK]
 (refine Ue @A6 ?_;(repeat clear hK K);repeat refine kq fun K hK=>?_)
 have e0:List.replicate R.length (C.v (.int .i64 0))=A5 (Vh R.length (Vf f R 0)):=by
  have:Vh R.length (Vf f R 0)=List.replicate R.length 0:=List.ext_getElem (by simp [Vh]) fun i h1 h2=>by simp [Vh,Vf,Vg]
  rw [this];simp [A5]
 have e1:List.replicate R.length (C.o (1,3) [])=AG (Dx R.length (Vf f R 0)):=by
  have:Dx R.length (Vf f R 0)=List.replicate R.length []:=List.ext_getElem (by simp [Dx]) fun i h1 h2=>by simp [Dx,Vf,Vi]
  rw [this];simp [AG,Af]
 rw [e0,e1]
 refine Ac (fun k:Nat=>{ tm:=[(1,.a (.c (.t 1 (Af D)))),(2,.a (.c (.p 0 0))),(5,.a (.c (.s 1 R.length))),(6,.a (.c (.s 2 R.length))),(28,.a (.c (.t 1 (Ae R)))),(29,.i R.length),(30,.i k)],hp:=[.r ⟨24,1,false,[.t 1 (Ae R)]⟩,.r ⟨3,1,true,A5 (Vh R.length (Vf f R k))⟩,.r ⟨34,1,true,AG (Dx R.length (Vf f R k))⟩],n:=133,pin:=0 }) (fun k=>k<=R.length) (fun k=>R.length - k) 0 ?_ ?_ ?_
 ·omega
 ·exact Un
 rintro k hk K hK
 by_cases hlt:k<R.length
 ·have d1:decide ((k:Int)<(R.length:Int))=true:=by simpa using hlt
  have hgR:=gE1 hlt
  have hgd:R.getD k []=R[k]:=by rw [gE2,hgR];rfl
  have hrl:=hr _ (gE6 hlt)
  have hbs:=hlo _ (gE6 hlt)
  have hel:=LZ f R k hk
  have hto:=Cr hlt
  have hto2:=Ia R (k+1)
  have hsu:Vf f R (k+1)=Vf f R k++Ve f k R[k]:=by rw [Jv,hgd]
  obtain ⟨gDk0,hfk⟩:=hD k hlt
  have gDk:=Ap gDk0
  generalize R[k]=row at *
  generalize Vf f R k=E0 at *
  (refine Ue @d1 ?_;(repeat clear hK K);repeat refine kq fun K hK=>?_)
  refine Uk ?_
  (refine Ue (an @A6 (an (AQ hgR) (an @A4 @AA))) ?_;(repeat clear hK K);repeat refine kq fun K hK=>?_)
  refine Ac (fun j:Nat=>{ tm:=[(1,.a (.c (.t 1 (Af D)))),(2,.a (.c (.p 0 0))),(5,.a (.c (.s 1 R.length))),(6,.a (.c (.s 2 R.length))),(7,.i k),(28,.a (.c (.t 1 (Ae R)))),(29,.i R.length),(30,.i k),(35,.a (.c (.t 2 (Al row)))),(36,.i row.length),(37,.i j)],hp:=[.r ⟨24,1,false,[.t 1 (Ae R)]⟩,.r ⟨3,1,true,A5 (Vh R.length (E0++Ve f k (row.take j)))⟩,.r ⟨34,1,true,AG (Dx R.length (E0++Ve f k (row.take j)))⟩],n:=133,pin:=0 }) (fun j=>j<=row.length) (fun j=>row.length - j) 0 ?_ ?_ ?_
  ·omega
  ·simp only [List.take_zero,Ve,List.filterMap_nil,List.append_nil]
   exact Un
  rintro j hj K hK
  by_cases hlt2:j<row.length
  rotate_left
  ·have d2:decide ((j:Int)<(row.length:Int))=false:=by simpa using hlt2
   have hje:row.take j=row:=gE7 (by omega)
   rw [hje,<- hsu]
   (refine Ue @d2 ?_;(repeat clear hK K);repeat refine kq fun K hK=>?_)
   refine Ul ?_
   (refine Uh ?_;repeat clear hK K)
   (refine Ud ?_;(repeat clear hK K);repeat refine kq fun K hK=>?_)
   refine Um ?_
   refine hK _ (k+1) (by omega) (by omega) ?_
   exact Un
  have d2:decide ((j:Int)<(row.length:Int))=true:=by simpa using hlt2
  have hat:=AH hlt2
  have hb:=hbs _ (gE6 hlt2)
  have hsn:=NQ f k (row.take j) row[j]
  rw [<- gE8 hlt2] at hsn
  have hrl2:=List.length_filterMap_le (Vd f k) (row.take j)
  have hrl3:(Ve f k (row.take j)).length<=j:=by have:=List.length_take_le j row;unfold Ve;omega
  generalize row[j]=a at *
  obtain ⟨e,t⟩:=a
  simp only at hat hb
  obtain ⟨tn,rfl⟩:∃ tn:Nat,t=(tn:Int):=⟨t.toNat,by omega⟩
  have htn:tn<R.length:=by omega
  obtain ⟨gDt0,hft⟩:=hD tn htn
  have gDt:=Ap gDt0
  have hEl:(E0++Ve f k (row.take j)).length<=1000000:=by rw [List.length_append];omega
  have hdef:Vd f k (e,(tn:Int))=if e=0/\f k ≠ f tn then some (f k,f tn) else none:=rfl
  have hnx:E0++Ve f k (row.take (j+1))=(E0++Ve f k (row.take j))++(Vd f k (e,(tn:Int))).toList:=by rw [hsn,List.append_assoc]
  generalize E0++Ve f k (row.take j)=E at *
  have hcl:=OW E (f k)
  have hbl:=M2 E (f tn)
  have hwl:=Fe R.length E
  have hbfl:=EF R.length E
  (refine Ue @d2 ?_;(repeat clear hK K);repeat refine kq fun K hK=>?_)
  refine Uk ?_
  (refine CY (an @hat (an @A4 @AA)) ?_;(repeat clear hK K);repeat refine kq fun K hK=>?_)
  (refine Ag 10 [(0,0),(1,0),(2,0),(3,1),(4,0),(5,0),(6,1),(7,0),(8,1),(9,0),(10,2)] (by kernel_rfl) (by kernel_rfl) (by intro c st h;simp [Ai,AX,Tz] at h) ?_)
  (refine Ua (an @A3 (an @hDl (an @gDk @gDt))) ?_;repeat clear hK K)
  by_cases hq:e=0/\f k ≠ f tn
  rotate_left
  ·rw [if_neg hq] at hdef
   rw [hdef] at hnx
   have hnx:E0++Ve f k (row.take (j+1))=E:=by rw [hnx];simp
   by_cases he:e=0
   rotate_left
   ·have d3:(e == 0)=false:=by simpa using he
    (refine Ue @d3 ?_;(repeat clear hK K);repeat refine kq fun K hK=>?_)
    refine Ul ?_
    (refine Ud ?_;(repeat clear hK K);repeat refine kq fun K hK=>?_)
    refine Um ?_
    refine hK _ (j+1) (by omega) (by omega) ?_
    refine Le.trans (Ad [0,1,2] rfl rfl) ?_
    (try simp only [List.set_nil,List.take_nil,List.take_zero,List.map_append,go_sem])
    (try simp only [A7,Ct])
    rw [hnx]
    exact Un
   have d3:(e == 0)=true:=by simpa using he
   have hff:f k=f tn:=Decidable.not_not.1 fun h=>hq ⟨he,h⟩
   have d4:((f k:Int) != (f tn:Int))=false:=by simp [hff]
   (refine Ue (an @d3 @d4) ?_;(repeat clear hK K);repeat refine kq fun K hK=>?_)
   refine Ul ?_
   (refine Ud ?_;(repeat clear hK K);repeat refine kq fun K hK=>?_)
   refine Um ?_
   refine hK _ (j+1) (by omega) (by omega) ?_
   refine Le.trans (Ad [0,1,2] rfl rfl) ?_
   (try simp only [List.set_nil,List.take_nil,List.take_zero,List.map_append,go_sem])
   (try simp only [A7,Ct])
   rw [hnx]
   exact Un
  obtain ⟨he,hff⟩:=hq
  have d3:(e == 0)=true:=by simpa using he
  have d4:((f k:Int) != (f tn:Int))=true:=by simp;omega
  rw [if_pos ⟨he,hff⟩] at hdef
  rw [hdef] at hnx
  have hnx:E0++Ve f k (row.take (j+1))=E++[(f k,f tn)]:=hnx
  have gW:(A5 (Vh R.length E))[f k]?=some (.v (.int .i64 (Vg E (f k):Nat))):=Ak (Gx hfk)
  have gB:=D2 (Jw (E:=E) hft)
  have hws:=NS (E:=E) (t:=f tn) hfk
  have hbs2:=M1 (E:=E) (c:=f k) hft
  have hml:((Vi E (f tn)).map Int.ofNat).length<=1000000:=by rw [List.length_map];omega
  generalize (Vi E (f tn)).map Int.ofNat=oc at *
  (refine Ue (an @d3 @d4) ?_;(repeat clear hK K);repeat refine kq fun K hK=>?_)
  refine Uk ?_
  (refine CY (an @A2 (an @hwl (an @gW (an @AL (an @hws (an @B8 (an @gB (an @hbfl (an @D3 (an @List.length_set.{0} (an @List.set_cons_zero.{0} (an @List.set_cons_succ.{0} (an @List.take_succ_cons.{0} (an @List.take_zero.{0} (an @List.drop_zero.{0} (an @List.length_take.{0} (an @List.length_drop.{0} (an @List.length_append.{0} (an @A3 (an @AC (an @AO (an @Bz (an @A2 (an @AY (an @Az (an @B5 (an @AB @AN))))))))))))))))))))))))))) ?_;(repeat clear hK K);repeat refine kq fun K hK=>?_)
  have hj6:((AG (Dx R.length E)).set (f tn) (C.s 5 (oc.length+1)))[f tn]?=some (.s 5 (oc.length+1)):=by rw [gEc (by rw [B8];omega)]
  have hset6:((AG (Dx R.length E)).set (f tn) (C.s 5 (oc.length+1))).set (f tn) (.o (1,3) (Af (oc++[(f k:Int)])))=AG (Dx R.length (E++[(f k,f tn)])):=by rw [D3,E7,hbs2]
  refine Um ?_
  refine hK _ (j+1) (by omega) (by omega) ?_
  refine Le.trans (B6 (r:=⟨3,1,true,A5 (oc++[(f k:Int)])⟩) (ri:=⟨34,1,true,(AG (Dx R.length E)).set (f tn) (C.s 5 (oc.length+1))⟩) (ts:=Af (oc++[(f k:Int)])) 2 (f tn) 5 (oc.length+1) (by decide) rfl hj6 rfl rfl (show 0<1 by omega) (by rw [A2];simp) (I9 _)) ?_
  simp only [hset6,go_sem]
  refine Le.trans (Ad [0,1,2] rfl rfl) ?_
  (try simp only [List.set_nil,List.take_nil,List.take_zero,List.map_append,go_sem])
  (try simp only [A7,Ct])
  rw [hnx]
  exact Un
 have d1:decide ((k:Int)<(R.length:Int))=false:=by simpa using hlt
 have hke:k=R.length:=by omega
 have hel:=LZ f R R.length (Nat.le_refl _)
 rw [List.take_length] at hel
 rw [hke] at d1
 rw [hke]
 obtain ⟨E,hEe⟩:∃ E,E=Vf f R R.length:=⟨_,rfl⟩
 rw [<- hEe] at hel hE ⊢
 have hwl:=Fe R.length E
 have hbfl:=EF R.length E
 (refine Ue @d1 ?_;(repeat clear hK K);repeat refine kq fun K hK=>?_)
 refine Ul ?_
 (refine Uh ?_;repeat clear hK K)
 refine B1 (I1 2 rfl) ?_
 simp only [Eb,go_sem]
 have htk:(C0 (Dx R.length E)).take R.length=C0 (Dx R.length E):=gE7 (by rw [BR];omega)
 have hif:(if R.length<=(C0 (Dx R.length E)).length then C.t 1 (C0 (Dx R.length E)) else C.u)=C.t 1 (C0 (Dx R.length E)):=if_pos (by rw [BR];omega)
 (refine B1 (Bh (r:=⟨34,1,true,Ie (Dx R.length E)⟩) 2 (C0 (Dx R.length E)) rfl (PJ _) (show 0<(1:Nat) by omega)) ?_;simp only [ST.frz,A0.frz,AV.frz,C.frz,Nat.le_refl,List.set_cons_zero,List.set_cons_succ,go_sem,htk,hif])
 (refine Ue (an @A3 @hDl) ?_;(repeat clear hK K);repeat refine kq fun K hK=>?_)
 refine B1 (CK 13 3 1 ?_) ?_
 ·simp only [go_sem]
 refine B1 (Ad [1,3] rfl rfl) ?_
 (try simp only [List.set_nil,List.take_nil,List.take_zero,List.map_append,go_sem])
 (try simp only [A7])
 refine Ac (fun k:Nat=>{ tm:=[(5,.a (.c (.s 0 R.length))),(6,.a (.c (.t 1 (C0 (Dx R.length E))))),(13,.a (.c (.s 1 (Ml f E k).length))),(76,.a (.c (.t 1 (Af D)))),(77,.i R.length),(78,.i k)],hp:=[.r ⟨3,1,true,A5 (Vh R.length E)⟩,.r ⟨3,1,true,A5 ((Ml f E k).map Int.ofNat)⟩],n:=133,pin:=0 }) (fun k=>k<=R.length) (fun k=>R.length - k) 0 ?_ ?_ ?_
 ·omega
 ·simp only [Ml,List.range_zero,List.filter_nil,List.map_nil,List.length_nil,A5]
  exact Un
 clear hk hlt d1 hke
 rintro k hk K hK
 have hql:=Oc f E k
 have hsu:=Mm f E k
 by_cases hlt:k<R.length
 ·have d2:decide ((k:Int)<(R.length:Int))=true:=by simpa using hlt
  obtain ⟨gD0,hfk⟩:=hD k hlt
  have gD:=Ap gD0
  have gW:(A5 (Vh R.length E))[f k]?=some (.v (.int .i64 (Vg E (f k):Nat))):=Ak (Gx hfk)
  by_cases h1:f k=k
  rotate_left
  ·have d3:((k:Int) == (f k:Int))=false:=by simp;omega
   rw [if_neg (fun h=>h1 h.1),List.append_nil] at hsu
   (refine Ue @d2 ?_;(repeat clear hK K);repeat refine kq fun K hK=>?_)
   refine Uk ?_
   (refine Ue (an @A3 (an @hDl (an @gD @d3))) ?_;(repeat clear hK K);repeat refine kq fun K hK=>?_)
   refine Ul ?_
   (refine Ud ?_;(repeat clear hK K);repeat refine kq fun K hK=>?_)
   refine Um ?_
   refine hK _ (k+1) (by omega) (by omega) ?_
   rw [hsu]
   exact Un
  have d3:((k:Int) == (f k:Int))=true:=by simp [h1]
  by_cases h2:Vg E (f k)=0
  rotate_left
  ·have d4:(((Vg E (f k):Nat):Int) == 0)=false:=by simp;omega
   rw [if_neg (fun h=>h2 (by rw [h.1];exact h.2)),List.append_nil] at hsu
   (refine Ue @d2 ?_;(repeat clear hK K);repeat refine kq fun K hK=>?_)
   refine Uk ?_
   (refine Ue (an @A3 (an @hDl (an @gD (an @d3 (an @A2 (an @hwl (an @gW @d4))))))) ?_;(repeat clear hK K);repeat refine kq fun K hK=>?_)
   refine Ul ?_
   (refine Ud ?_;(repeat clear hK K);repeat refine kq fun K hK=>?_)
   refine Um ?_
   refine hK _ (k+1) (by omega) (by omega) ?_
   rw [hsu]
   exact Un
  have d4:(((Vg E (f k):Nat):Int) == 0)=true:=by simp [h2]
  rw [if_pos ⟨h1,by rw [<- h1];exact h2⟩] at hsu
  generalize Ml f E k=Q at *
  (refine Ue @d2 ?_;(repeat clear hK K);repeat refine kq fun K hK=>?_)
  refine Uk ?_
  (refine Ue (an @A3 (an @hDl (an @gD (an @d3 (an @A2 (an @hwl (an @gW @d4))))))) ?_;(repeat clear hK K);repeat refine kq fun K hK=>?_)
  refine Uk ?_
  (refine Ue (an @List.length_map.{0,0} (an @List.set_cons_zero.{0} (an @List.set_cons_succ.{0} (an @List.take_succ_cons.{0} (an @List.take_zero.{0} (an @List.drop_zero.{0} (an @List.length_take.{0} (an @List.length_drop.{0} (an @List.length_append.{0} (an @A3 (an @AC (an @AO (an @Bz (an @A2 (an @AY (an @Az (an @B5 (an @AB @AN)))))))))))))))))) ?_;(repeat clear hK K);repeat refine kq fun K hK=>?_)
  refine Um ?_
  refine hK _ (k+1) (by omega) (by omega) ?_
  refine Le.trans (Ad [0,3] rfl rfl) ?_
  (try simp only [List.set_nil,List.take_nil,List.take_zero,List.map_append,go_sem])
  (try simp only [A7])
  have htk2:(Q.map Int.ofNat).take Q.length=Q.map Int.ofNat:=gE7 (by simp)
  rw [hsu]
  simp only [htk2,List.map_append,List.map_cons,List.map_nil,List.length_append,List.length_singleton,h1]
  exact Un
 have d2:decide ((k:Int)<(R.length:Int))=false:=by simpa using hlt
 have hke:k=R.length:=by omega
 rw [hke] at d2
 rw [hke]
 (refine Ue @d2 ?_;(repeat clear hK K);repeat refine kq fun K hK=>?_)
 refine Ul ?_
 (refine Uh ?_;repeat clear hK K)
 (refine Ud ?_;(repeat clear hK K);repeat refine kq fun K hK=>?_)
 refine Ac (fun x:Nat × List Nat × List Int=>{ tm:=[(5,.a (.c (.s 0 R.length))),(6,.a (.c (.t 1 (C0 (Dx R.length E))))),(13,.a (.c (.s 1 x.2.1.length))),(16,.i x.1)],hp:=[.r ⟨3,1,true,A5 x.2.2⟩,.r ⟨3,1,true,A5 (x.2.1.map Int.ofNat)⟩],n:=133,pin:=0 }) (fun x=>x.1<=x.2.1.length/\Kh E R.length f x.1 0 x.2.1 x.2.2) (fun x=>R.length - x.1) (0,Ml f E R.length,Vh R.length E) ?_ ?_ ?_
 ·exact ⟨by simp,Kh.start⟩
 ·exact Un
 clear hk hlt d2 hke hql hsu
 rintro ⟨i,Q,W⟩ ⟨hi,hK1⟩ K hK
 simp only at hi hK1
 have hQl:=hK1.qlen
 have hWl:=hK1.len
 by_cases hli:i<Q.length
 rotate_left
 ·have d3:decide ((i:Int)<(Q.length:Int))=false:=by simpa using hli
  have hie:i=Q.length:=by omega
  rw [hie] at hK1
  (refine Ue @d3 ?_;(repeat clear hK K);repeat refine kq fun K hK=>?_)
  refine Ul ?_
  (refine Uh ?_;repeat clear hK K)
  (refine Ud ?_;(repeat clear hK K);repeat refine kq fun K hK=>?_)
  ((try refine AU ?_);(try simp only [Ai,AX]);refine BQ (Ad [1] rfl rfl) ?_;(try simp only [List.set_nil,List.take_nil,List.take_zero,List.map_append,go_sem]);((try refine AU ?_);(try refine Ab ?_);(try simp only [Ai,AX]);refine C6 (by first | exact .inl rfl | exact .inr rfl) rfl ?_;simp only [TC,GQ,FD,Hb,Tryd.results56,go_sem,true_and,and_true,A7,Am]))
  exact ⟨Q,by rw [<- hEe];exact hK1.done rk (fun e he=>(hE e he).2),rfl,rfl⟩
 have d3:decide ((i:Int)<(Q.length:Int))=true:=by simpa using hli
 have hqg:Q.getD i 0=Q[i]:=by rw [gE2,gE1 hli];rfl
 have hqn:=(hK1.rep _ (gE6 hli)).1
 have gq:(A5 (Q.map Int.ofNat))[i]?=some (.v (.int .i64 ((Q[i]:Nat):Int))):=Ak (by rw [List.getElem?_map,gE1 hli];rfl)
 have hqi:=gE1 hli
 generalize Q[i]=q at *
 have gB:=DL (Jw (E:=E) hqn)
 have hbl:=M2 E q
 (refine Ue @d3 ?_;(repeat clear hK K);repeat refine kq fun K hK=>?_)
 refine Uk ?_
 (refine Ue (an @A2 (an @List.length_map.{0,0} (an @gq (an @BR (an @hbfl (an @gB @A3)))))) ?_;(repeat clear hK K);repeat refine kq fun K hK=>?_)
 refine Ac (fun x:Nat × List Nat × List Int=>{ tm:=[(5,.a (.c (.s 0 R.length))),(6,.a (.c (.t 1 (C0 (Dx R.length E))))),(13,.a (.c (.s 1 x.2.1.length))),(16,.i i),(110,.a (.c (.t 1 (Af ((Vi E q).map Int.ofNat))))),(111,.i (Vi E q).length),(112,.i x.1)],hp:=[.r ⟨3,1,true,A5 x.2.2⟩,.r ⟨3,1,true,A5 (x.2.1.map Int.ofNat)⟩],n:=133,pin:=0 }) (fun x=>x.1<=(Vi E q).length/\i<x.2.1.length/\x.2.1.getD i 0=q/\Kh E R.length f i x.1 x.2.1 x.2.2) (fun x=>(Vi E q).length - x.1) (0,Q,W) ?_ ?_ ?_
 ·exact ⟨by simp,hli,hqg,hK1⟩
 ·exact Un
 clear hK1 hQl hWl hi hli d3 gq hqi hqg
 rintro ⟨m,Q,W⟩ ⟨hm,hli,hqg,hK1⟩ K hK
 simp only at hm hli hqg hK1
 have hQl:=hK1.qlen
 have hWl:=hK1.len
 by_cases hlm:m<(Vi E q).length
 rotate_left
 ·have d4:decide ((m:Int)<((Vi E q).length:Int))=false:=by simpa using hlm
  have hnx:=hK1.next hli (by rw [hqg];omega)
  (refine Ue @d4 ?_;(repeat clear hK K);repeat refine kq fun K hK=>?_)
  refine Ul ?_
  (refine Uh ?_;repeat clear hK K)
  (refine Ud ?_;(repeat clear hK K);repeat refine kq fun K hK=>?_)
  refine Um ?_
  refine hK _ (i+1,Q,W) ⟨by simp only;omega,hnx⟩ (by simp only;omega) ?_
  exact Un
 have d4:decide ((m:Int)<((Vi E q).length:Int))=true:=by simpa using hlm
 have hcm:(Vi E (Q.getD i 0))[m]?=some (Vi E q)[m]:=by rw [hqg];exact gE1 hlm
 obtain ⟨hc1,hc2,w,hw,hw1,hw2,hst1,hst2⟩:=hK1.step hli (fun e he=>(hE e he).1) hcm
 have gp:(Af ((Vi E q).map Int.ofNat))[m]?=some (.v (.int .i64 (((Vi E q)[m]:Nat):Int))):=Ap (by rw [List.getElem?_map,gE1 hlm];rfl)
 have hcle:=OW E (Vi E q)[m]
 generalize (Vi E q)[m]=c at *
 have gW:=Ak hw
 have gW2:(A5 (W.set c (w - 1)))[c]?=some (.v (.int .i64 (w - 1))):=Ak (gEc (by omega))
 have hb1:w - 1<=1000000:=by omega
 have hb0:0<=w - 1:=by omega
 by_cases he:w=1
 rotate_left
 ·have d5:((w - 1) == 0)=false:=by simp;omega
  have hnx:=hst1 he
  (refine Ue @d4 ?_;(repeat clear hK K);repeat refine kq fun K hK=>?_)
  refine Uk ?_
  (refine CY (an @gp (an @A3 (an @List.length_map.{0,0} (an @A2 (an @hWl (an @gW (an @AL (an @List.length_set.{0} (an @gW2 @d5))))))))) ?_;(repeat clear hK K);repeat refine kq fun K hK=>?_)
  refine Ul ?_
  (refine Ud ?_;(repeat clear hK K);repeat refine kq fun K hK=>?_)
  refine Um ?_
  refine hK _ (m+1,Q,W.set c (w - 1)) ⟨by simp only;omega,hli,hqg,hnx⟩ (by simp only;omega) ?_
  exact Un
 have d5:((w - 1) == 0)=true:=by simp [he]
 have hnx:=hst2 he
 (refine Ue @d4 ?_;(repeat clear hK K);repeat refine kq fun K hK=>?_)
 refine Uk ?_
 (refine CY (an @gp (an @A3 (an @List.length_map.{0,0} (an @A2 (an @hWl (an @gW (an @AL (an @List.length_set.{0} (an @gW2 @d5))))))))) ?_;(repeat clear hK K);repeat refine kq fun K hK=>?_)
 refine Uk ?_
 (refine Ue (an @List.length_map.{0,0} (an @List.set_cons_zero.{0} (an @List.set_cons_succ.{0} (an @List.take_succ_cons.{0} (an @List.take_zero.{0} (an @List.drop_zero.{0} (an @List.length_take.{0} (an @List.length_drop.{0} (an @List.length_append.{0} (an @A3 (an @AC (an @AO (an @Bz (an @A2 (an @AY (an @Az (an @B5 (an @AB @AN)))))))))))))))))) ?_;(repeat clear hK K);repeat refine kq fun K hK=>?_)
 refine Um ?_
 refine hK _ (m+1,Q++[c],W.set c (w - 1)) ⟨by simp only;omega,by simp only [List.length_append,List.length_singleton];omega,?_,hnx⟩ (by simp only;omega) ?_
 ·simp only
  rw [gE2,gEa hli,<- gE2]
  exact hqg
 refine Le.trans (Ad [0,3] rfl rfl) ?_
 (try simp only [List.set_nil,List.take_nil,List.take_zero,List.map_append,go_sem])
 (try simp only [A7])
 have htk2:(Q.map Int.ofNat).take Q.length=Q.map Int.ofNat:=gE7 (by simp)
 simp only [htk2,List.map_append,List.map_cons,List.map_nil,List.length_append,List.length_singleton]
 exact Un
def Gh.inB (g:Gh) (r0:Row):Gh:=⟨g.γ,g.κ,Ow [.r { r0 with cells:=r0.cells.map TF }] g⟩
theorem Mn {g:Gh} {r0:Row} (i j:Nat):¬ Lv [.r { r0 with cells:=r0.cells.map TF }] g (.cl i j):=by
 rintro ⟨r2,k,cs,e1,e2,_⟩
 cases i with
 | succ i=>simp at e1
 | zero=>
  simp at e1
  subst e1
  simp only [List.getElem?_map,Option.map_eq_some_iff] at e2
  obtain ⟨c,_,hc⟩:=e2
  exact IK hc
theorem GH {g:Gh} {r0:Row} (ℓ:Loc) (hl:Lv [.r { r0 with cells:=r0.cells.map TF }] g ℓ):Lv [.r r0] g ℓ:=by
 cases ℓ with
 | cl i j=>exact absurd hl (Mn i j)
 | ob q=>
  cases q with
  | succ q=>rcases hl with ⟨r2,e1,_⟩ | ⟨kv,e1⟩ <;> simp at e1
  | zero=>
   rcases hl with ⟨r2,e1,e2⟩ | ⟨kv,e1⟩
   ·exact .inl ⟨r0,rfl,e2⟩
   simp at e1
theorem P4 {g:Gh} {r0:Row} {w:World} (hr:HR g [.r r0] w) {j n:Nat} {k:Nat × Nat} {cs:List Tr} {y:Value} (hj:r0.cells[j]?=some (.o k cs)) (hy:CR g [.r r0] w (.b 0 j n) y):CR (g.inB r0) [] w (.t k.1 cs) y:=by
 obtain ⟨_,h2⟩:=hy
 obtain ⟨h3,h4,_,_⟩:=h2 r0 k cs rfl hj
 rcases hr.row 0 r0 rfl with ⟨k1,k2⟩ | ⟨k1,k2,arr,k3,k4,k5,k6,k7⟩
 ·rw [k2] at hj;simp at hj
 obtain ⟨u,u1,u2⟩:=k7 j _ hj
 have huy:u=y:=by
  rw [cell_of_row w _ j arr _ (0,0) k3,u1] at h4
  exact Option.some.inj h4
 subst huy
 have h:=CV (st:={ tm:=[],hp:=[.r r0],n:=0,pin:=0 }) (t:=.l k.1 cs) (hp':=[.r { r0 with cells:=r0.cells.map TF }]) (fun b _ ho=>ho.imp (fun h=>h) (fun ⟨ℓ,hl,e⟩=>⟨ℓ,GH ℓ hl,e⟩)) hr rfl (Mn 0) GH hj (.inl rfl) u2
 refine h.mono fun b hb ho=>?_
 rcases ho with ho | ⟨ℓ,hl,_⟩
 ·exact ho
 cases ℓ with
 | ob id=>rcases hl with ⟨r,h,_⟩ | ⟨kv,h⟩ <;> simp at h
 | cl id j=>obtain ⟨r,k,cs,h,_⟩:=hl;simp at h
theorem FC.inB {P:Program} {f:FuncId} {A A':List AV} {r0:Row} {e:TypeId} {Q:List Int->Prop} (hFC:FC P f A [] (fun r o=>∃ L,Q L/\r=.a (.c (.s 0 L.length))/\o=[.r ⟨e,1,true,A5 L⟩]))
  (hA:∀ (g:Gh) (w:World) (vals:List Value),HR g [.r r0] w->Fq g [.r r0] w A' vals->Fq (g.inB r0) [] w A vals):
  FC P f A' [.r r0] (fun r o=>∃ L,Q L/\r=.a (.c (.s 1 L.length))/\o=[.r r0,.r ⟨e,1,true,A5 L⟩]):=by
 intro g w vals hr hargs
 have noL:∀ (g:Gh) (ℓ:Loc),¬ Lv [] g ℓ:=by
  intro g ℓ hl
  cases ℓ with
  | ob id=>rcases hl with ⟨r,h,_⟩ | ⟨kv,h⟩ <;> simp at h
  | cl id j=>obtain ⟨r,k,cs,h,_⟩:=hl;simp at h
 have how:∀ b,Ow [] (g.inB r0) b->Ow [.r r0] g b:=fun b ho=>by
  rcases ho with (ho | ⟨ℓ,hl,e⟩) | ⟨ℓ,hl,_⟩
  ·exact .inl ho
  ·exact .inr ⟨ℓ,GH ℓ hl,e⟩
  exact absurd hl (noL _ ℓ)
 have hHR:HR (g.inB r0) [] w:=by
  refine ⟨fun b hb=>?_,fun ℓ hl=>absurd hl (noL _ ℓ),fun ℓ _ hl=>absurd hl (noL _ ℓ),fun id r h=>by simp at h,fun id r h=>by simp at h,hr.gl.keep (Nat.le_refl _) (fun _ _ _=>rfl) (fun k _ h=>how k h)⟩
  rcases hb with hb | ⟨ℓ,hl,e⟩
  ·exact hr.ml b hb
  rw [<- e];exact hr.lt (GH ℓ hl)
 refine (hFC (g.inB r0) w vals hHR (hA g w vals hr hargs)).mono ?_
 rintro en w' ⟨v,r,outs,g',rfl,⟨L,hQ,rfl,rfl⟩,h1,h2,h3,h4,h5⟩
 have hnew:∀ ℓ,Lv [.r ⟨e,1,true,A5 L⟩] g' ℓ->w.heap.size<=g'.γ ℓ:=fun ℓ hl=>(h3 ℓ hl).elim (fun ⟨ℓ2,hl2,_⟩=>absurd hl2 (noL _ ℓ2)) (fun h=>h)
 have hfx:∀ b,b<w.heap.size->w'.heap[b]?=w.heap[b]?:=fun b hb=>h5.block b hb (fun ⟨ℓ,hl,_⟩=>noL _ ℓ hl)
 let g2:Gh:=⟨fun ℓ=>match ℓ with
  | .ob 0=>g.γ (.ob 0)
  | .ob (i+1)=>g'.γ (.ob i)
  | .cl 0 j=>g.γ (.cl 0 j)
  | .cl (i+1) j=>g'.γ (.cl i j),fun i=>match i with
  | 0=>g.κ 0
  | i+1=>g'.κ i,g.M⟩
 have split:∀ ℓ,Lv [.r r0,.r ⟨e,1,true,A5 L⟩] g2 ℓ->(Lv [.r r0] g ℓ/\g2.γ ℓ=g.γ ℓ)\/∃ ℓ',Lv [.r ⟨e,1,true,A5 L⟩] g' ℓ'/\g2.γ ℓ=g'.γ ℓ'/\ℓ=(match ℓ' with | .ob i=>.ob (i+1) | .cl i j=>.cl (i+1) j):=by
  intro ℓ hl
  cases ℓ with
  | ob q=>
   cases q with
   | zero=>
    rcases hl with ⟨r2,e1,e2⟩ | ⟨kv,e1⟩
    ·exact .inl ⟨.inl ⟨r2,e1,e2⟩,rfl⟩
    simp at e1
   | succ q=>
    rcases hl with ⟨r2,e1,e2⟩ | ⟨kv,e1⟩
    ·exact .inr ⟨.ob q,.inl ⟨r2,e1,e2⟩,rfl,rfl⟩
    exact .inr ⟨.ob q,.inr ⟨kv,e1⟩,rfl,rfl⟩
  | cl q j=>
   obtain ⟨r2,k,cs,e1,e2,e3⟩:=hl
   cases q with
   | zero=>exact .inl ⟨⟨r2,k,cs,e1,e2,e3⟩,rfl⟩
   | succ q=>exact .inr ⟨.cl q j,⟨r2,k,cs,e1,e2,e3⟩,rfl,rfl⟩
 have how2:∀ b,b<w.heap.size->Ow [.r r0,.r ⟨e,1,true,A5 L⟩] g2 b->Ow [.r r0] g b:=by
  rintro b hb (ho | ⟨ℓ,hl,e⟩)
  ·exact .inl ho
  rcases split ℓ hl with ⟨h6,h7⟩ | ⟨ℓ',h6,h7,_⟩
  ·exact .inr ⟨ℓ,h6,by rw [<- e,h7]⟩
  have:=hnew ℓ' h6
  rw [<- e,h7] at hb;omega
 have hmo:Mo g [.r r0] w g2 [.r r0,.r ⟨e,1,true,A5 L⟩] w' (fun _=>True):=by
  refine ⟨fun q hq=>?_,how2,h5.size,fun b hb _=>hfx b hb,fun q _ hq r2 j k cs e1 e2=>?_⟩
  ·obtain ⟨o,q1,q2⟩:=hq
   cases q with
   | zero=>exact ⟨⟨o,q1,q2⟩,rfl,rfl⟩
   | succ q=>simp at q1
  obtain ⟨o,q1,q2⟩:=hq
  cases q with
  | zero=>
   simp at e1
   subst e1
   exact ⟨_,rfl,e2,fun hlt=>World.cell?_of_block (hfx _ hlt)⟩
  | succ q=>simp at q1
 refine ⟨v,.a (.c (.s 1 L.length)),[.r r0,.r ⟨e,1,true,A5 L⟩],g2,rfl,⟨L,hQ,rfl,rfl⟩,?_,⟨by simp,rfl,fun i hi=>?_⟩,fun ℓ hl=>?_,?_,?_⟩
 rotate_left
 ·have:i=0:=by simp at hi;exact hi
  subst this
  exact ⟨rfl,rfl⟩
 ·rcases split ℓ hl with ⟨h6,h7⟩ | ⟨ℓ',h6,h7,_⟩
  ·exact .inl ⟨ℓ,h6,h7.symm⟩
  exact .inr (by rw [h7];exact hnew ℓ' h6)
 ·obtain ⟨b1,b2,A0,b3,b4,b5⟩:=h4
  exact ⟨⟨_,rfl,rfl⟩,b2,A0,b3,b4,b5⟩
 ·exact h5.mono fun k _ ⟨ℓ,hl,_⟩=>absurd hl (noL _ ℓ)
 refine ⟨fun b hb=>Nat.lt_of_lt_of_le (hr.ml b hb) h5.size,fun ℓ hl hM=>?_,fun ℓ ℓ' a1 a2 a3=>?_,fun q r2 e1=>?_,fun q kv e1=>?_,hmo.gl hr.gl⟩
 rotate_left 3
 ·cases q with
  | zero=>simp at e1
  | succ q=>
   cases q with
   | succ q=>simp at e1
   | zero=>simp at e1
 ·rcases split ℓ hl with ⟨h6,h7⟩ | ⟨ℓ',h6,h7,_⟩
  ·rw [h7] at hM;exact hr.md ℓ h6 hM
  have b1:=hr.ml _ hM
  have b2:=hnew ℓ' h6
  omega
 ·rcases split ℓ a1 with ⟨c1,c2⟩ | ⟨m,c1,c2,c3⟩ <;> rcases split ℓ' a2 with ⟨d1,d2⟩ | ⟨m',d1,d2,d3⟩
  ·exact hr.inj ℓ ℓ' c1 d1 (by rw [<- c2,<- d2];exact a3)
  ·have b1:=hr.lt c1
   have b2:=hnew m' d1
   omega
  ·have b1:=hr.lt d1
   have b2:=hnew m c1
   omega
  have:=h1.inj m m' c1 d1 (by rw [<- c2,<- d2];exact a3)
  rw [c3,d3,this]
 cases q with
 | zero=>
  simp at e1
  subst e1
  exact RowR.mo hmo rfl (hr.row 0 r0 rfl) (fun hk=>hfx _ (hr.lt (.inl ⟨r0,rfl,hk⟩))) (fun j k cs hc hne=>⟨rfl,hfx _ (hr.lt (ℓ:=.cl 0 j) ⟨r0,k,cs,rfl,hc,hne⟩)⟩)
 | succ q=>
  cases q with
  | succ q=>simp at e1
  | zero=>
   simp at e1
   subst e1
   rcases h1.row 0 _ rfl with h6 | ⟨k1,k2,arr,k3,k4,k5,k6,k7⟩
   ·exact .inl h6
   refine .inr ⟨k1,k2,arr,k3,k4,k5,k6,fun j c hj=>?_⟩
   obtain ⟨u,u1,u2⟩:=k7 j c hj
   simp only [A5,List.getElem?_map,Option.map_eq_some_iff] at hj
   obtain ⟨x,_,rfl⟩:=hj
   exact ⟨u,u1,u2⟩
theorem Ix {P:Program} {g:Gh} {hp:List Ob} {w:World} {t:TypeId} {ty:Ty} {id off:Nat} {r:Row} {k:Nat × Nat} {cs:List Tr} {p:Value} (hr:HR g hp w) (hty:tyOf P t=some ty) (hag:ty.agg=true) (hsz:ty.size=1) (hp1:CR g hp w (.p id off) p) (hrow:hp[id]?=some (.r r)) (hcell:r.cells[off]?=some (.o k cs)) (hk:0<k.1):
  ∃ v,(∀ W,Fp (fun _=>False) w W->(Instr.loadAt t p).run P W=.ok v W)/\AVR (CR g hp w) (.a (.g [.b id off (cs.length / k.1)])) v:=by
 obtain ⟨b1,b2⟩:=hp1
 rw [b2]
 rcases hr.row id r hrow with ⟨_,h2⟩ | ⟨_,_,arr,ha,hl,hs,hm,hcells⟩
 ·rw [h2] at hcell;simp at hcell
 obtain ⟨u,f1,f2⟩:=hcells _ _ hcell
 have hcu:w.cell? ⟨g.γ (.ob id),off,none⟩=some u:=by rw [cell_of_row _ _ _ _ _ _ ha];exact f1
 refine ⟨.agg #[u],fun W hW=>C5 hty hag _ off [u] (by rw [hsz];rfl) (fun j v hj=>?_),[u],rfl,rfl,fun i c hi=>?_⟩
 ·cases j with
  | zero=>
   simp at hj
   subst hj
   exact (hW.cell (p:=⟨_,_,none⟩) (Array.getElem?_eq_some_iff.1 ha).1 (fun h=>h)).trans hcu
  | succ j=>simp at hj
 cases i with
 | succ i=>simp at hi
 | zero=>
  simp at hi
  subst hi
  refine ⟨u,rfl,b1,fun r' k' cs' e1 e2=>?_⟩
  rw [hrow] at e1;cases e1
  rw [hcell] at e2;cases e2
  refine ⟨(Array.getElem?_eq_some_iff.1 ha).1,hcu,?_⟩
  rcases f2 with ⟨h1,A,h2,_⟩ | ⟨_,n,cp,arr',h2,h3,_⟩
  ·rw [h1];simp;exact ⟨_,_,h2⟩
  rw [h3,Nat.mul_div_cancel _ hk];exact ⟨rfl,_,_,h2⟩
theorem T9 {P:Program} {ops:Array Oper} {o:Oper} {st:ST} {K:ST->Prop} {stop i:Nat} {past:Bool} {rest:List (Nat × Nat)} {t:TypeId} {y:Operand} {ty:Ty} {id off:Nat} {r:Row} {k:Nat × Nat} {cs:List Tr} (hi:ops[i]?=some o) (hg:o.guard=none) (hd:Tn o st.n=true) (ho:o.op=.load t y) (hty:tyOf P t=some ty) (hag:ty.agg=true) (hsz:ty.size=1) (hy:st.ev y=.a (.c (.p id off))) (hrow:st.hp[id]?=some (.r r)) (hcell:r.cells[off]?=some (.o k cs)) (hk:0<k.1)
  (h:Cd P ops stop false past rest (st.put o.dst (.a (.g [.b id off (cs.length / k.1)]))) K):Cd P ops stop false past ((i,1) :: rest) st K:=by
 intro M0 w0 a w w1 Q he hp hR hN
 obtain ⟨g,hpp,hR⟩:=hR
 have hyv:=hR.ev y
 rw [hy] at hyv
 obtain ⟨v,h1,h2⟩:=Ix hR.hr hty hag hsz hyv hrow hcell hk
 have hw:=he rfl
 subst hw
 refine ⟨o,v,hi,.inl ⟨by simp [Region.wanted,hg],fun W hW=>?_⟩,h M0 w0 _ w w Q he hp ⟨g,by cases o.dst <;> exact hpp,hR.put (Ay hd) h2⟩ hN⟩
 obtain ⟨dst,op,ty,pos,af,gd⟩:=o
 simp only at ho
 subst ho
 simp [execOp,h1 W hW]
theorem StpC.f {P:Program} {o:Oper} {st:ST} {K:ST->Prop} (h:StpC P o st K True):Sd P o st K:=fun M0 w0 a w N Q hR hN=>h M0 w0 a w N Q hR fun st' a' w' h1 h2 h3=>hN st' a' w' h1 h2 (h3 trivial)
theorem Oe {n:Nat} {r:List Ar} {k:Nat} (h:k<r.length):(Vk n r).take (k+1)=(Vk n r).take k++[(r[k].1,r[k].2+(n:Int))]:=by
 rw [gE8 (by rw [Ca];exact h)]
 simp [Vk]
theorem Of {n:Nat} {R:List (List Ar)} {k:Nat} (h:k<R.length):(Vl n R).take (k+1)=(Vl n R).take k++[Vk n R[k]]:=by
 rw [gE8 (by rw [Gz];exact h)]
 simp [Vl]
end Go.Proofs.YtjijjfkalheokaaDoor
