/- Lemmas. -/
import Derived.Test.YtjijjfkalheokaaGreatDoorZk
import Derived.Test.YtjijjfkalheokaaGreatDoorG45
import Derived.Test.YtjijjfkalheokaaGreatDoorG42
import Derived.Test.YtjijjfkalheokaaGreatDoorG39
import Derived.Test.YtjijjfkalheokaaGreatDoorTl3
namespace Go.Proofs.YtjijjfkalheokaaGreatDoor
set_option linter.unusedVariables false
set_option linter.unusedSimpArgs false
open Go.RowKit
set_option maxRecDepth 100000
attribute [local go_sem] lga C.pl C.one

def X6 (B:List Bool):List Tr:=B.map fun b=>.v (.bool b)
theorem BD (B:List Bool):(X6 B).length=B.length:=by simp [X6]
theorem F7 {B:List Bool} {i:Nat} {b:Bool} (h:B[i]?=some b):(X6 B)[i]?=some (.v (.bool b)):=by simp [X6,h]
theorem PP (B:List Bool):Fz (WU B) (X6 B):=by unfold WU X6;exact Fz.map fun x _=>.inl rfl
theorem F8 (L:List (List Int)):(Bd L).map VX=CE L:=by simp [Bd,CE,VX,Function.comp_def]
theorem DS {L:List (List Int)} {i:Nat} {x:List Int} (h:L[i]?=some x):(Bd L)[i]?=some (.o (1,3) (Ab x)):=by simp [Bd,h]
theorem PQ (L:List (List Int)):Fz (CE L) (Co L):=Fz.map fun x _=>.inl rfl
theorem CV (L:List C) (s:Nat) (x y:C):(L.set s x).set s y=L.set s y:=by simp
set_option maxHeartbeats 2000000 in
theorem S2 (R:List (List Ar)) (D:List Int) (hlo:BE R=true) (hD:D.length=R.length) (hn:R.length<=1000000) (hr:∀ r∈R,r.length<=1000000):FC Tryz.prog 70 [B7 R,As D] [] (fun r o=>r=.a (.c (.s 0 R.length))/\o=[.r ⟨4,1,true,WU (X1 R D R.length)⟩]):=by
 refine A6 Tryz.func70 rfl (by rw [Tryz.ntmps70];simp) ?_
 rw [Tryz.ntmps70]
 simp only [Bf,B7,As]
 (refine Wu @A3 ?_;(repeat clear hK K);repeat refine kq fun K hK=>?_)
 have e0:List.replicate R.length (C.v (.bool false))=WU (X1 R D 0++List.replicate (R.length - 0) false):=by simp [WU,X1]
 rw [e0]
 refine A8 (fun k:Nat=>{ tm:=[(1,.a (.c (.t 1 (Ab D)))),(2,.a (.c (.p 0 0))),(5,.a (.c (.s 1 R.length))),(15,.i R.length),(16,.i k)],hp:=[.r ⟨25,1,false,[.t 1 (Ah R)]⟩,.r ⟨4,1,true,WU (X1 R D k++List.replicate (R.length - k) false)⟩],n:=43,pin:=0 }) (fun k=>k<=R.length) (fun k=>R.length - k) 0 ?_ ?_ ?_
 ·omega
 ·exact WE
 rintro k hk K hK
 by_cases hlt:k<R.length
 rotate_left
 ·have d1:decide ((k:Int)<(R.length:Int))=false:=by simpa using hlt
  have hke:k=R.length:=by omega
  rw [hke] at d1
  rw [hke,Nat.sub_self,List.replicate_zero,List.append_nil]
  (refine Wu @d1 ?_;(repeat clear hK K);repeat refine kq fun K hK=>?_)
  refine WC ?_
  (refine Wx ?_;repeat clear hK K)
  (refine Wt ?_;(repeat clear hK K);repeat refine kq fun K hK=>?_)
  exact RG [1] Tryz.results70 @Cf
 have d1:decide ((k:Int)<(R.length:Int))=true:=by simpa using hlt
 have hgd:R.getD k []=R[k]:=by rw [gE2,gE1 hlt];rfl
 have htl:=Iq hlo (k:=k)
 have hac:=Hk R k true hlt (by omega) (by have:=hr _ (gE6 hlt);omega)
 have hll:=Gl true R[k]
 have hrl:=hr _ (gE6 hlt)
 have hfin:(X1 R D k++List.replicate (R.length - k) false).set k (WZ D k (BR true R[k]))=X1 R D (k+1)++List.replicate (R.length - (k+1)) false:=by
  obtain ⟨m,hm⟩:∃ m,R.length - k=m+1:=⟨R.length - k - 1,by omega⟩
  have hm2:R.length - (k+1)=m:=by omega
  have hl:=F4 R D k
  rw [hm,hm2,List.replicate_succ,List.set_append_right _ _ (by omega),hl,Nat.sub_self,List.set_cons_zero]
  simp [X1,List.range_succ,gE2,hlt]
 rw [hgd] at htl
 have hbl:(X1 R D k++List.replicate (R.length - k) false).length=R.length:=by simp [F4];omega
 have hini:(X1 R D k++List.replicate (R.length - k) false).set k false=X1 R D k++List.replicate (R.length - k) false:=by
  obtain ⟨m,hm⟩:∃ m,R.length - k=m+1:=⟨R.length - k - 1,by omega⟩
  rw [hm,List.replicate_succ,List.set_append_right _ _ (by rw [F4];omega),F4,Nat.sub_self,List.set_cons_zero]
 generalize X1 R D k++List.replicate (R.length - k) false=B at *
 generalize BR true R[k]=row at *
 (refine Wu @d1 ?_;(repeat clear hK K);repeat refine kq fun K hK=>?_)
 refine WB ?_
 (refine Wt ?_;(repeat clear hK K);repeat refine kq fun K hK=>?_)
 (refine Wy hac ?_;intro K1 hK1)
 rintro _ _ ⟨rfl,rfl⟩
 (refine Wz ?_;clear hK1 K1)
 (refine Wu (an @A2 @Ak) ?_;(repeat clear hK K);repeat refine kq fun K hK=>?_)
 refine A8 (fun j:Nat=>{ tm:=[(1,.a (.c (.t 1 (Ab D)))),(2,.a (.c (.p 0 0))),(5,.a (.c (.s 1 R.length))),(6,.i k),(15,.i R.length),(16,.i k),(21,.a (.c (.t 2 (Ao row)))),(22,.i row.length),(23,.i j)],hp:=[.r ⟨25,1,false,[.t 1 (Ah R)]⟩,.r ⟨4,1,true,WU (B.set k (WZ D k (row.take j)))⟩],n:=43,pin:=0 }) (fun j=>j<=row.length) (fun j=>row.length - j) 0 ?_ ?_ ?_
 ·omega
 ·have e1:WZ D k []=false:=rfl
  rw [List.take_zero,e1,hini]
  exact WE
 rintro j hj K hK
 by_cases hlt2:j<row.length
 rotate_left
 ·have d2:decide ((j:Int)<(row.length:Int))=false:=by simpa using hlt2
  have hje:row.take j=row:=gE7 (by omega)
  rw [hje,hfin]
  (refine Wu @d2 ?_;(repeat clear hK K);repeat refine kq fun K hK=>?_)
  refine WC ?_
  (refine Wx ?_;repeat clear hK K)
  (refine Wt ?_;(repeat clear hK K);repeat refine kq fun K hK=>?_)
  refine WD ?_
  refine hK _ (k+1) (by omega) (by omega) ?_
  exact WE
 have d2:decide ((j:Int)<(row.length:Int))=true:=by simpa using hlt2
 have hat:=AL hlt2
 have htj:=htl _ (gE6 hlt2)
 have hsn:=PJ D k (row.take j) row[j]
 rw [<- gE8 hlt2] at hsn
 generalize row[j]=a at *
 obtain ⟨e,t⟩:=a
 simp only at hat htj hsn
 obtain ⟨tn,rfl⟩:∃ tn:Nat,t=(tn:Int):=⟨t.toNat,by omega⟩
 have htn:tn<D.length:=by omega
 rw [Int.toNat_natCast,gE2,gE2,gE1 htn,gE1 (show k<D.length by omega),Option.getD_some,Option.getD_some] at hsn
 have gt:=Am (gE1 htn)
 have gk:=Am (gE1 (show k<D.length by omega))
 by_cases he:D[tn]=D[k]
 rotate_left
 ·have d3:(D[tn] == D[k])=false:=by simpa using he
  rw [decide_eq_false he,Bool.or_false] at hsn
  (refine Wu @d2 ?_;(repeat clear hK K);repeat refine kq fun K hK=>?_)
  refine WB ?_
  (refine Cn (an @hat (an @A2 @Ak)) ?_;(repeat clear hK K);repeat refine kq fun K hK=>?_)
  (refine Ac 9 [(0,0),(1,0),(2,1),(3,0),(4,1),(5,0),(6,0),(7,0),(8,1),(9,2)] (by kernel_rfl) (by kernel_rfl) (by intro c st h;simp [Ae,AF,VT] at h) ?_)
  (refine Wq (an @gt (an @gk (an @A4 (an @hD @d3)))) ?_;repeat clear hK K)
  refine WC ?_
  (refine Wt ?_;(repeat clear hK K);repeat refine kq fun K hK=>?_)
  refine WD ?_
  refine hK _ (j+1) (by omega) (by omega) ?_
  refine Le.trans (A9 [0,1] rfl rfl) ?_
  (try simp only [List.set_nil,List.take_nil,List.take_zero,List.map_append,go_sem])
  (try simp only [Cf])
  rw [hsn]
  exact WE
 have d3:(D[tn] == D[k])=true:=by simpa using he
 rw [gEg he,Bool.or_true] at hsn
 (refine Wu @d2 ?_;(repeat clear hK K);repeat refine kq fun K hK=>?_)
 refine WB ?_
 (refine Cn (an @hat (an @A2 @Ak)) ?_;(repeat clear hK K);repeat refine kq fun K hK=>?_)
 (refine Ac 9 [(0,0),(1,0),(2,1),(3,0),(4,1),(5,0),(6,0),(7,0),(8,1),(9,2)] (by kernel_rfl) (by kernel_rfl) (by intro c st h;simp [Ae,AF,VT] at h) ?_)
 (refine Wq (an @gt (an @gk (an @A4 (an @hD @d3)))) ?_;repeat clear hK K)
 refine WB ?_
 (refine Cn (an @CM (an @List.length_set.{0} (an @hbl (an @Gi @List.set_set.{0})))) ?_;(repeat clear hK K);repeat refine kq fun K hK=>?_)
 refine WD ?_
 refine hK _ (j+1) (by omega) (by omega) ?_
 refine Le.trans (A9 [0,1] rfl rfl) ?_
 (try simp only [List.set_nil,List.take_nil,List.take_zero,List.map_append,go_sem])
 (try simp only [Cf])
 rw [hsn]
 exact WE
theorem PR (R:List (List Ar)) (D:List Int) (hlo:BE R=true) (hD:D.length=R.length) (hn:R.length<=1000000) (hr:∀ r∈R,r.length<=1000000):FC Tryz.prog 70 [B7 R,As D] [] (fun r o=>o=[]/\r=.a (.c (.t 1 (X6 (X1 R D R.length))))):=
 (S2 R D hlo hD hn hr).frz (PP _) (by omega) (by rw [BD,F4];omega)
set_option maxHeartbeats 4000000 in
theorem S3 (R:List (List Ar)) (G:List Bool) (hlo:BE R=true) (hG:G.length=R.length) (hn:R.length<=1000000) (hr:∀ r∈R,r.length<=1000000):FC Tryz.prog 69 [B7 R,.a (.c (.t 1 (X6 G)))] [] (fun r o=>∃ O:List Int,(O.length=R.length/\∀ s,s<R.length->(0<=WO O (-1) s↔∃ g,g<R.length/\G.getD g false=true/\Rc (WP true R) s g))/\r=.a (.c (.s 0 R.length))/\o=[AA O]):=by
 refine A6 Tryz.func69 rfl (by rw [Tryz.ntmps69];simp) ?_
 rw [Tryz.ntmps69]
 simp only [Bf,B7]
 have h1:1<=R.length:=(gE4 hlo).1
 have htA:Bw R<=262144:=(gE4 hlo).2.2.1
 have hE:=Cw true hlo
 (refine Wu @A3 ?_;(repeat clear hK K);repeat refine kq fun K hK=>?_)
 have e0:List.replicate R.length (C.o (1,3) [])=Bd (WY R 0):=by simp [Bd,WY,Ab]
 rw [e0]
 refine A8 (fun k:Nat=>{ tm:=[(1,.a (.c (.t 1 (X6 G)))),(2,.a (.c (.p 0 0))),(5,.a (.c (.s 1 R.length))),(22,.i R.length),(23,.i k)],hp:=[.r ⟨25,1,false,[.t 1 (Ah R)]⟩,.r ⟨22,1,true,Bd (WY R k)⟩],n:=109,pin:=0 }) (fun k=>k<=R.length) (fun k=>R.length - k) 0 ?_ ?_ ?_
 ·omega
 ·exact WE
 rintro k hk K hK
 by_cases hlt:k<R.length
 ·have d1:decide ((k:Int)<(R.length:Int))=true:=by simpa using hlt
  have hgd:R.getD k []=R[k]:=by rw [gE2,gE1 hlt];rfl
  have htl:=Iq hlo (k:=k)
  have hac:=Hk R k true hlt (by omega) (by have:=hr _ (gE6 hlt);omega)
  have hll:=Gl true R[k]
  have hrl:=hr _ (gE6 hlt)
  have hsz:=Ko hlo k hk
  have hsz1:=Hi R (k+1)
  have hsz2:=Cj hlt
  have hfin:WY R (k+1)=DZ k (WY R k) (BR true R[k]):=by rw [WY,hgd]
  rw [hgd] at htl
  generalize BR true R[k]=row at *
  (refine Wu @d1 ?_;(repeat clear hK K);repeat refine kq fun K hK=>?_)
  refine WB ?_
  (refine Wt ?_;(repeat clear hK K);repeat refine kq fun K hK=>?_)
  (refine Wy hac ?_;intro K1 hK1)
  rintro _ _ ⟨rfl,rfl⟩
  (refine Wz ?_;clear hK1 K1)
  (refine Wu (an @A2 @Ak) ?_;(repeat clear hK K);repeat refine kq fun K hK=>?_)
  refine A8 (fun j:Nat=>{ tm:=[(1,.a (.c (.t 1 (X6 G)))),(2,.a (.c (.p 0 0))),(5,.a (.c (.s 1 R.length))),(6,.i k),(22,.i R.length),(23,.i k),(28,.a (.c (.t 2 (Ao row)))),(29,.i row.length),(30,.i j)],hp:=[.r ⟨25,1,false,[.t 1 (Ah R)]⟩,.r ⟨22,1,true,Bd (DZ k (WY R k) (row.take j))⟩],n:=109,pin:=0 }) (fun j=>j<=row.length) (fun j=>row.length - j) 0 ?_ ?_ ?_
  ·omega
  ·simp only [List.take_zero,DZ,List.foldl_nil]
   exact WE
  rintro j hj K hK
  by_cases hlt2:j<row.length
  rotate_left
  ·have d2:decide ((j:Int)<(row.length:Int))=false:=by simpa using hlt2
   have hje:row.take j=row:=gE7 (by omega)
   rw [hje,<- hfin]
   (refine Wu @d2 ?_;(repeat clear hK K);repeat refine kq fun K hK=>?_)
   refine WC ?_
   (refine Wx ?_;repeat clear hK K)
   (refine Wt ?_;(repeat clear hK K);repeat refine kq fun K hK=>?_)
   refine WD ?_
   refine hK _ (k+1) (by omega) (by omega) ?_
   exact WE
  have d2:decide ((j:Int)<(row.length:Int))=true:=by simpa using hlt2
  have hat:=AL hlt2
  have htj:=htl _ (gE6 hlt2)
  have hsn:=LI k (WY R k) (row.take j) row[j]
  rw [<- gE8 hlt2] at hsn
  generalize row[j]=a at *
  obtain ⟨e,t⟩:=a
  simp only at hat htj
  obtain ⟨tn,rfl⟩:∃ tn:Nat,t=(tn:Int):=⟨t.toNat,by omega⟩
  have htn:tn<R.length:=by omega
  have hol:(DZ k (WY R k) (row.take j)).length=R.length:=by rw [Ip,Gk]
  have hot:=N5 k (row.take j) (WY R k) (fun a ha=>by rw [Gk];exact (htl a (List.mem_of_mem_take ha)).2)
  rw [List.length_take] at hot
  generalize DZ k (WY R k) (row.take j)=o at *
  have hrw:=Kn o tn
  have hgo:o[tn]?=some (o.getD tn []):=by
   rw [gE2,gE1 (by omega)];rfl
  have hA:WX k o (e,(tn:Int))=o.set tn (o.getD tn []++[(k:Int)]):=rfl
  generalize o.getD tn []=oc at *
  (refine Wu @d2 ?_;(repeat clear hK K);repeat refine kq fun K hK=>?_)
  refine WB ?_
  (refine Cn (an @hat (an @A2 @Ak)) ?_;(repeat clear hK K);repeat refine kq fun K hK=>?_)
  (refine AJ [2] (.m 0 0 0 (.m 1 0 0 (.m 2 1 12 (.m 3 0 0 (.m 4 0 0 (.m 5 1 10 (.m 6 0 0 (.m 7 1 10 (.m 8 0 0 (.a 9 (.a 10 (.m 11 0 0 (.a 12 .e))))))))))))) (by kernel_rfl) (by kernel_rfl) (by intro c st h;simp [Ae,AF,VT] at h) ?_)
  (refine Ww (an @BB (an (DS hgo) @hol)) ?_;repeat clear hK K)
  (refine Wj rfl rfl ?_;intro K1 hK1;refine Bx rfl ?_;simp only [go_sem];(first | refine hK1 _ ?_ | refine AD (hK1 _ ?_));clear hK1 K1)
  (refine Ga rfl rfl rfl ?_;intro K1 hK1;refine CK rfl rfl rfl rfl (by first | rfl | simp only [CQ,List.getD_cons_zero,List.getD_cons_succ,hne,List.isEmpty_cons,Bool.not_false,Bool.true_and,Bool.and_true,Bool.and_self]) rfl ?_;simp only [go_sem,Bm,A4,AE,DS hgo];(first | refine hK1 _ ?_ | refine AD (hK1 _ ?_));clear hK1 K1)
  (refine Ww (an @BB @hol) ?_;repeat clear hK K)
  (refine Wk rfl rfl rfl rfl ?_;intro K1 hK1;refine AP rfl ?_;simp only [go_sem,BB,List.length_set,CV,hol];(first | refine hK1 _ ?_ | refine AD (hK1 _ ?_));clear hK1 K1)
  refine CL ⟨by simp,by simp,?_⟩
  (try simp only [Ae,AF])
  refine hK _ ?_
  clear hK K
  have hj6:((Bd o).set tn (C.s 4 (oc.length+1)))[tn]?=some (.s 4 (oc.length+1)):=by rw [gEc (by rw [BB];omega)]
  have hset6:((Bd o).set tn (C.s 4 (oc.length+1))).set tn (.o (1,3) (Ab (oc++[(k:Int)])))=Bd (o.set tn (oc++[(k:Int)])):=by rw [CV,F3]
  refine Au (AR (r:=⟨3,1,true,A7 (oc++[(k:Int)])⟩) (ri:=⟨22,1,true,(Bd o).set tn (C.s 4 (oc.length+1))⟩) (ts:=Ab (oc++[(k:Int)])) 1 tn 4 (oc.length+1) (by decide) rfl hj6 rfl rfl (show 0<1 by omega) (by rw [A5];simp) (EM _)) ?_
  simp only [hset6,go_sem]
  (refine Wt ?_;(repeat clear hK K);repeat refine kq fun K hK=>?_)
  refine WD ?_
  refine hK _ (j+1) (by omega) (by omega) ?_
  refine Le.trans (A9 [0,1] rfl rfl) ?_
  (try simp only [List.set_nil,List.take_nil,List.take_zero,List.map_append,go_sem])
  (try simp only [Af,D9])
  rw [hsn,hA]
  exact WE
 have d1:decide ((k:Int)<(R.length:Int))=false:=by simpa using hlt
 have hke:k=R.length:=by omega
 rw [hke] at d1
 rw [hke]
 (refine Wu @d1 ?_;(repeat clear hK K);repeat refine kq fun K hK=>?_)
 refine WC ?_
 (refine Wx ?_;repeat clear hK K)
 have hBl:=Gk R R.length
 have hBm:=fun t x=>RZ hlo (t:=t) (x:=x) R.length
 have hsz:=Ko hlo R.length (Nat.le_refl _)
 rw [List.take_length] at hsz
 generalize WY R R.length=B at *
 refine Au (Cm 1 rfl) ?_
 simp only [F8,go_sem]
 have htk:(Co B).take R.length=Co B:=gE7 (by rw [BL];omega)
 (refine Au (Bg (r:=⟨22,1,true,CE B⟩) 1 (Co B) rfl (PQ _) (show 0<(1:Nat) by omega)) ?_;simp only [ST.frz,A0.frz,AV.frz,C.frz,Nat.le_refl,List.set_cons_zero,List.set_cons_succ,go_sem,htk,BL,hBl])
 refine Au (A9 [0] rfl rfl) ?_
 (try simp only [List.set_nil,List.take_nil,List.take_zero,List.map_append,go_sem])
 (refine Wu @A3 ?_;(repeat clear hK K);repeat refine kq fun K hK=>?_)
 (refine Ai rfl ?_;intro K1 hK1;refine AH (ids:=[]) [1] (Gg (-1) R.length h1 hn) rfl rfl (by simp only [go_sem]) (by first | assumption | kernel_rfl) rfl rfl (by (simp only [List.map_append,List.append_nil,go_sem]) <;> rfl) (by (simp only [VS,AA,A7,go_sem]) <;> rfl) ?_ ?_)
 ·rintro _ _ ⟨rfl,rfl⟩;rfl
 rintro _ _ ⟨rfl,rfl⟩
 (simp only [As,Bl,AA,BQ,List.append_nil,List.nil_append,List.length_map,go_sem];refine hK1 _ ?_;clear hK1 K1)
 (refine Wu (an @BD @hG) ?_;(repeat clear hK K);repeat refine kq fun K hK=>?_)
 refine Au (CT 10 3 1 ?_) ?_
 ·simp only [go_sem]
 refine Au (A9 [2,3] rfl rfl) ?_
 (try simp only [List.set_nil,List.take_nil,List.take_zero,List.map_append,go_sem])
 (try simp only [Af])
 have hGl:∀ q:Nat,q<R.length->G[q]?=some (G.getD q false):=fun q hq=>by rw [gE2,gE1 (by omega)];rfl
 refine A8 (fun x:Nat × List Int × List Nat=>{ tm:=[(5,.a (.c (.t 1 (Co B)))),(9,.a (.c (.s 0 R.length))),(10,.a (.c (.s 1 x.2.2.length))),(53,.a (.c (.t 1 (X6 G)))),(54,.i R.length),(55,.i x.1)],hp:=[.r ⟨3,1,true,A7 x.2.1⟩,.r ⟨3,1,true,A7 (x.2.2.map Int.ofNat)⟩],n:=109,pin:=0 }) (fun x=>x.1<=R.length/\Bq (WP true R) R.length (fun g=>G.getD g false=true) x.2.1 x.2.2/\(∀ g,g<x.1->G.getD g false=true->g∈x.2.2)/\∀ q∈x.2.2,q<x.1) (fun x=>R.length - x.1) (0,List.replicate R.length (-1),[]) ?_ ?_ ?_
 ·exact ⟨by simp,Bq.start _ _ _,by simp,by simp⟩
 ·simp only [List.map_nil,List.length_nil,A7]
  exact WE
 rintro ⟨k,O,Q⟩ ⟨hk,hq,hgo,hqk⟩ K hK
 simp only at hk hq hgo hqk
 have hQl:=hq.qlen
 have hOl:=hq.len
 by_cases hlt:k<R.length
 ·have d1:decide ((k:Int)<(R.length:Int))=true:=by simpa using hlt
  have gb:=F7 (hGl k hlt)
  cases hb:G.getD k false with
  | true=>
   rw [hb] at gb
   have hnk:k ∉ Q:=fun h=>by have:=hqk k h;omega
   (refine Wu @d1 ?_;(repeat clear hK K);repeat refine kq fun K hK=>?_)
   refine WB ?_
   (refine Wu (an @BD (an @hG @gb)) ?_;(repeat clear hK K);repeat refine kq fun K hK=>?_)
   refine WB ?_
   (refine Cn (an @A5 (an @hOl (an @AK (an @List.length_map.{0,0} (an @List.set_cons_zero.{0} (an @List.set_cons_succ.{0} (an @List.take_succ_cons.{0} (an @List.take_zero.{0} (an @List.drop_zero.{0} (an @List.length_take.{0} (an @List.length_drop.{0} (an @List.length_append.{0} (an @A4 (an @Az (an @AN (an @Bm (an @A5 (an @AU (an @AE (an @B1 (an @AG @AM))))))))))))))))))))) ?_;(repeat clear hK K);repeat refine kq fun K hK=>?_)
   refine WD ?_
   refine hK _ (k+1,O.set k 0,Q++[k]) ⟨by simp only;omega,hq.push hlt hnk (by omega) (by omega) ⟨k,hlt,hb,.refl k⟩,fun g hg1 hg2=>?_,fun q hq1=>?_⟩ (by simp only;omega) ?_
   ·rcases Nat.lt_or_ge g k with h | h
    ·exact List.mem_append_left _ (hgo g h hg2)
    have:g=k:=by simp only at hg1;omega
    subst this;simp
   ·simp only at hq1 ⊢
    rcases List.mem_append.1 hq1 with h | h
    ·have:=hqk q h;omega
    simp at h;omega
   refine Le.trans (A9 [0,3] rfl rfl) ?_
   (try simp only [List.set_nil,List.take_nil,List.take_zero,List.map_append,go_sem])
   (try simp only [Af])
   have htk:(Q.map Int.ofNat).take Q.length=Q.map Int.ofNat:=gE7 (by simp)
   simp only [htk,List.map_append,List.map_cons,List.map_nil,List.length_append,List.length_singleton]
   exact WE
  | false=>
   rw [hb] at gb
   (refine Wu @d1 ?_;(repeat clear hK K);repeat refine kq fun K hK=>?_)
   refine WB ?_
   (refine Wu (an @BD (an @hG @gb)) ?_;(repeat clear hK K);repeat refine kq fun K hK=>?_)
   refine WC ?_
   (refine Wt ?_;(repeat clear hK K);repeat refine kq fun K hK=>?_)
   refine WD ?_
   refine hK _ (k+1,O,Q) ⟨by simp only;omega,hq,fun g hg1 hg2=>?_,fun q hq1=>by have:=hqk q hq1;simp only;omega⟩ (by simp only;omega) ?_
   rotate_left
   ·exact WE
   rcases Nat.lt_or_ge g k with h | h
   ·exact hgo g h hg2
   have:g=k:=by simp only at hg1;omega
   subst this;rw [hb] at hg2;cases hg2
 have d1:decide ((k:Int)<(R.length:Int))=false:=by simpa using hlt
 have hke:k=R.length:=by omega
 rw [hke] at d1 hgo
 rw [hke]
 (refine Wu @d1 ?_;(repeat clear hK K);repeat refine kq fun K hK=>?_)
 refine WC ?_
 (refine Wx ?_;repeat clear hK K)
 (refine Wt ?_;(repeat clear hK K);repeat refine kq fun K hK=>?_)
 refine A8 (fun x:Nat × List Int × List Nat=>{ tm:=[(5,.a (.c (.t 1 (Co B)))),(9,.a (.c (.s 0 R.length))),(10,.a (.c (.s 1 x.2.2.length))),(13,.i x.1)],hp:=[.r ⟨3,1,true,A7 x.2.1⟩,.r ⟨3,1,true,A7 (x.2.2.map Int.ofNat)⟩],n:=109,pin:=0 }) (fun x=>x.1<=x.2.2.length/\Bq (WP true R) R.length (fun g=>G.getD g false=true) x.2.1 x.2.2/\(∀ g,g<R.length->G.getD g false=true->g∈x.2.2)/\∀ j q,j<x.1->x.2.2[j]?=some q->∀ p,p<R.length->q∈WP true R p->p∈x.2.2) (fun x=>R.length - x.1) (0,O,Q) ?_ ?_ ?_
 ·exact ⟨by simp,hq,hgo,fun j q h=>by simp at h⟩
 ·exact WE
 clear hq hgo hqk hQl hOl
 rintro ⟨i,O,Q⟩ ⟨hi,hq,hgo,hpd⟩ K hK
 simp only at hi hq hgo hpd
 have hQl:=hq.qlen
 have hOl:=hq.len
 by_cases hli:i<Q.length
 rotate_left
 ·have d2:decide ((i:Int)<(Q.length:Int))=false:=by simpa using hli
  (refine Wu @d2 ?_;(repeat clear hK K);repeat refine kq fun K hK=>?_)
  refine WC ?_
  (refine Wx ?_;repeat clear hK K)
  (refine Wt ?_;(repeat clear hK K);repeat refine kq fun K hK=>?_)
  refine WG [0] Tryz.results69 @Af ?_
  refine ⟨O,⟨hOl,fun s hs=>hq.done hE hgo (fun q hqm p hp1 hp2=>?_) hs⟩,rfl⟩
  obtain ⟨j,hj⟩:=List.mem_iff_getElem?.1 hqm
  exact hpd j q (by have:=(List.getElem?_eq_some_iff.1 hj).1;omega) hj p hp1 hp2
 have d2:decide ((i:Int)<(Q.length:Int))=true:=by simpa using hli
 have hql:=hq.lt _ (gE6 hli)
 have gq:(A7 (Q.map Int.ofNat))[i]?=some (.v (.int .i64 ((Q[i]:Nat):Int))):=Aq (by rw [List.getElem?_map,gE1 hli];rfl)
 have hqi:=gE1 hli
 generalize Q[i]=q at *
 have gB:=DA (gE1 (show q<B.length by omega))
 have hpm:=hBm q
 have hgd:B.getD q []=B[q]:=by rw [gE2,gE1 (by omega)];rfl
 have hpl:=Kn B q
 simp only [hgd] at hpm hpl
 generalize B[q]=pre at *
 (refine Wu @d2 ?_;(repeat clear hK K);repeat refine kq fun K hK=>?_)
 refine WB ?_
 (refine Wu (an @A5 (an @List.length_map.{0,0} (an @gq (an @BL (an @hBl (an @gB @A4)))))) ?_;(repeat clear hK K);repeat refine kq fun K hK=>?_)
 refine A8 (fun x:Nat × List Int × List Nat=>{ tm:=[(5,.a (.c (.t 1 (Co B)))),(9,.a (.c (.s 0 R.length))),(10,.a (.c (.s 1 x.2.2.length))),(13,.i i),(81,.a (.c (.t 1 (Ab pre)))),(82,.i pre.length),(83,.i x.1)],hp:=[.r ⟨3,1,true,A7 x.2.1⟩,.r ⟨3,1,true,A7 (x.2.2.map Int.ofNat)⟩],n:=109,pin:=0 }) (fun x=>x.1<=pre.length/\i<x.2.2.length/\Bq (WP true R) R.length (fun g=>G.getD g false=true) x.2.1 x.2.2/\(∀ g,g<R.length->G.getD g false=true->g∈x.2.2)/\(∀ j q,j<i->x.2.2[j]?=some q->∀ p,p<R.length->q∈WP true R p->p∈x.2.2)/\x.2.2[i]?=some q/\∀ j (p:Nat),j<x.1->pre[j]?=some (p:Int)->p∈x.2.2) (fun x=>pre.length - x.1) (0,O,Q) ?_ ?_ ?_
 ·exact ⟨by simp,hli,hq,hgo,hpd,hqi,fun j p h=>by simp at h⟩
 ·exact WE
 clear hq hgo hQl hOl hi hli d2 gq hqi hpd
 rintro ⟨m,O,Q⟩ ⟨hm,hli,hq,hgo,hpd,hqi,hpm2⟩ K hK
 simp only at hm hli hq hgo hpd hqi hpm2
 have hQl:=hq.qlen
 have hOl:=hq.len
 by_cases hlm:m<pre.length
 rotate_left
 ·have d3:decide ((m:Int)<(pre.length:Int))=false:=by simpa using hlm
  (refine Wu @d3 ?_;(repeat clear hK K);repeat refine kq fun K hK=>?_)
  refine WC ?_
  (refine Wx ?_;repeat clear hK K)
  (refine Wt ?_;(repeat clear hK K);repeat refine kq fun K hK=>?_)
  refine WD ?_
  refine hK _ (i+1,O,Q) ⟨by simp only;omega,hq,hgo,fun j q' hj hj2 p hp1 hp2=>?_⟩ (by simp only;omega) ?_
  rotate_left
  ·exact WE
  simp only at hj hj2 ⊢
  by_cases e:j=i
  rotate_left
  ·exact hpd j q' (by omega) hj2 p hp1 hp2
  subst e
  rw [hqi] at hj2
  injection hj2 with hj2
  subst hj2
  have hin:=(hpm (p:Int)).2 ⟨p,hp1,rfl,hp2⟩
  obtain ⟨j2,hj3⟩:=List.mem_iff_getElem?.1 hin
  exact hpm2 j2 p (by have:=(List.getElem?_eq_some_iff.1 hj3).1;omega) hj3
 have d3:decide ((m:Int)<(pre.length:Int))=true:=by simpa using hlm
 have gp:=Am (gE1 hlm)
 obtain ⟨p,hp1,hp2,hp3⟩:=(hpm pre[m]).1 (gE6 hlm)
 have hpe:=gE1 hlm
 rw [hp2] at gp hpe
 have gO:(A7 O)[p]?=some (.v (.int .i64 O[p])):=Aq (gE1 (by omega))
 have hOp:WO O (-1) p=O[p]:=C1 (by omega)
 have hOq:WO O (-1) q=O[q]:=C1 (by omega)
 have hiff:=hq.iff p hp1
 have hqm:q∈Q:=gE9 hqi
 have h0q:=(hq.iff q hql).2 hqm
 have hhq:=hq.hi q
 by_cases hneg:O[p]<0
 rotate_left
 ·have d4:decide (O[p]<0)=false:=by simpa using hneg
  (refine Wu @d3 ?_;(repeat clear hK K);repeat refine kq fun K hK=>?_)
  refine WB ?_
  (refine Wu (an @gp (an @A4 (an @A5 (an @hOl (an @gO @d4))))) ?_;(repeat clear hK K);repeat refine kq fun K hK=>?_)
  refine WC ?_
  (refine Wt ?_;(repeat clear hK K);repeat refine kq fun K hK=>?_)
  refine WD ?_
  refine hK _ (m+1,O,Q) ⟨by simp only;omega,hli,hq,hgo,hpd,hqi,fun j p' hj hj2=>?_⟩ (by simp only;omega) ?_
  rotate_left
  ·exact WE
  simp only at hj hj2 ⊢
  by_cases e:j=m
  rotate_left
  ·exact hpm2 j p' (by omega) hj2
  subst e
  rw [hpe] at hj2
  injection hj2 with hj2
  have:p'=p:=by omega
  subst this
  exact hiff.1 (by omega)
 have d4:decide (O[p]<0)=true:=by simpa using hneg
 have hnp:p ∉ Q:=fun h=>by have:=hiff.2 h;omega
 have gOq:(A7 O)[q]?=some (.v (.int .i64 O[q])):=Aq (gE1 (by omega))
 have gqi:(A7 (Q.map Int.ofNat))[i]?=some (.v (.int .i64 (q:Int))):=Aq (by rw [List.getElem?_map,hqi];rfl)
 have hb1:O[q]+1<=1000001:=by omega
 have hb0:0<=O[q]:=by omega
 (refine Wu @d3 ?_;(repeat clear hK K);repeat refine kq fun K hK=>?_)
 refine WB ?_
 (refine Wu (an @gp (an @A4 (an @A5 (an @hOl (an @gO @d4))))) ?_;(repeat clear hK K);repeat refine kq fun K hK=>?_)
 refine WB ?_
 (refine Cn (an @A5 (an @hOl (an @gOq (an @gqi (an @AK (an @List.length_map.{0,0} (an @List.set_cons_zero.{0} (an @List.set_cons_succ.{0} (an @List.take_succ_cons.{0} (an @List.take_zero.{0} (an @List.drop_zero.{0} (an @List.length_take.{0} (an @List.length_drop.{0} (an @List.length_append.{0} (an @A4 (an @Az (an @AN (an @Bm (an @A5 (an @AU (an @AE (an @B1 (an @AG @AM))))))))))))))))))))))) ?_;(repeat clear hK K);repeat refine kq fun K hK=>?_)
 refine WD ?_
 refine hK _ (m+1,O.set p (O[q]+1),Q++[p]) ⟨by simp only;omega,by simp only [List.length_append,List.length_singleton];omega,hq.push hp1 hnp (by omega) (by omega) ?_,fun g hg1 hg2=>List.mem_append_left _ (hgo g hg1 hg2),fun j q' hj hj2 r hr hr2=>?_,?_,fun j p' hj hj2=>?_⟩ (by simp only;omega) ?_
 ·obtain ⟨g,g1,g2,g3⟩:=hq.rc q hqm
  exact ⟨g,g1,g2,(Rc.one hp3).trans g3⟩
 ·simp only at hj2
  rw [gEa (by omega)] at hj2
  exact List.mem_append_left _ (hpd j q' hj hj2 r hr hr2)
 ·simp only
  rw [gEa hli]
  exact hqi
 ·simp only at hj hj2 ⊢
  by_cases e:j=m
  rotate_left
  ·exact List.mem_append_left _ (hpm2 j p' (by omega) hj2)
  subst e
  rw [hpe] at hj2
  injection hj2 with hj2
  have:p'=p:=by omega
  subst this;simp
 refine Le.trans (A9 [0,3] rfl rfl) ?_
 (try simp only [List.set_nil,List.take_nil,List.take_zero,List.map_append,go_sem])
 (try simp only [Af])
 have htk:(Q.map Int.ofNat).take Q.length=Q.map Int.ofNat:=gE7 (by simp)
 simp only [htk,List.map_append,List.map_cons,List.map_nil,List.length_append,List.length_singleton]
 exact WE
theorem FC.frzP {P:Program} {f:FuncId} {args:List AV} {e k:Nat} {α:Type} {n:α->Nat} {p:α->Prop} {cs:α->List C} {ts:α->List Tr} (h:FC P f args [] (fun r o=>∃ x,p x/\r=.a (.c (.s 0 (n x)))/\o=[.r ⟨e,k,true,cs x⟩])) (hz:∀ x,Fz (cs x) (ts x)) (hk:0<k) (hn:∀ x,p x->n x*k=(ts x).length):
  FC P f args [] (fun r o=>∃ x,p x/\o=[]/\r=.a (.c (.t k (ts x)))):=by
 intro g w vals hr ha
 refine (h g w vals hr ha).mono ?_
 rintro x w' ⟨v,r,outs,g',rfl,⟨y,hy,rfl,rfl⟩,h1,h2,h3,h4,h5⟩
 have hn:=hn y hy
 have hz:=hz y
 have hR:RelG g' (FX [] g) w { tm:=[(0,.a (.c (.s 0 (n y))))],hp:=[.r ⟨e,k,true,cs y⟩],n:=1,pin:=0 } { tmps:=#[v],defers:=[] } w':=by
  refine ⟨h1,h3,fun d=>?_,rfl,rfl,h5⟩
  simp only [ST.get,El]
  split
  ·rename_i hd;subst hd;exact h4
  trivial
 have hF:=hR.freeze (id:=0) (r:=⟨e,k,true,cs y⟩) rfl hz hk
 have hv:=hF.tm 0
 have e0:(ST.frz { tm:=[(0,.a (.c (.s 0 (n y))))],hp:=[.r ⟨e,k,true,cs y⟩],n:=1,pin:=0 } 0 k (ts y)).get 0=.a (.c (.t k (ts y))):=by
  simp only [ST.frz,ST.get,El,List.map_cons,List.map_nil,AV.frz,A0.frz,C.frz,if_true,hn,Nat.le_refl,List.take_length]
 rw [show (({ tm:=[(0,.a (.c (.s 0 (n y))))],hp:=[.r ⟨e,k,true,cs y⟩],n:=1,pin:=0 }:ST).frz 0 (⟨e,k,true,cs y⟩:Row).k (ts y)).get 0=.a (.c (.t k (ts y))) from e0] at hv
 have hp:=hF.hr.pk (ρ:=[]) (M:=g'.M) (fun b hb=>.inl hb) hF.hr.ml (fun ℓ hl=>by
  cases ℓ with
  | ob i=>rcases hl with ⟨r,e1,_⟩ | ⟨kv,e1⟩ <;> simp [VS] at e1
  | cl i j=>obtain ⟨r,_,_,e1,_⟩:=hl;simp [VS] at e1) rfl
 have hv2:=AVR.ren (ρ:=[]) (M:=g'.M) (fun b hb=>.inl hb) hv
 refine ⟨v,.a (.c (.t k (ts y))),[],_,rfl,⟨y,hy,rfl,rfl⟩,hp,⟨Nat.le_refl _,h2.2.1,fun i hi=>by simp at hi⟩,fun ℓ hl=>?_,hv2,h5⟩
 cases ℓ with
 | ob i=>rcases hl with ⟨r,e1,_⟩ | ⟨kv,e1⟩ <;> simp at e1
 | cl i j=>obtain ⟨r,_,_,e1,_⟩:=hl;simp at e1
theorem PS (R:List (List Ar)) (G:List Bool) (hlo:BE R=true) (hG:G.length=R.length) (hn:R.length<=1000000) (hr:∀ r∈R,r.length<=1000000):FC Tryz.prog 69 [B7 R,.a (.c (.t 1 (X6 G)))] [] (fun r o=>∃ O:List Int,(O.length=R.length/\∀ s,s<R.length->(0<=WO O (-1) s↔∃ g,g<R.length/\G.getD g false=true/\Rc (WP true R) s g))/\o=[]/\r=.a (.c (.t 1 (Ab O)))):=
 (S3 R G hlo hG hn hr).frzP (fun O=>EM O) (by omega) (fun O h=>by rw [A4];have:=h.1;omega)
theorem Kw (R:List (List Ar)) (t:Bool) (hv:Bv R=true) (h1:1<=R.length) (hn:R.length<=1000000) (hr:∀ r∈R,r.length<=1000000):FC Tryz.prog 71 [B7 R,.b t] [] (fun r o=>∃ D:List Int,(D.length=R.length/\∀ v,v<R.length->Least (WP t R) v (WO D (-1) v))/\o=[]/\r=.a (.c (.t 1 (Ab D)))):=
 ((RQ R t hv h1 hn hr).mono fun r o ⟨D,h1,h2,h3,h4⟩=>⟨D,⟨h1,h2⟩,h4,h3⟩).frzP (fun D=>EM D) (by omega) (fun D h=>by rw [A4];have:=h.1;omega)
def X7 (O:List Int) (k:Nat):List Bool:=(List.range k).map fun s=>decide (WO O (-1) s>=0)
theorem Jl (O:List Int) (k:Nat):(X7 O k).length=k:=by simp [X7]
def X8 (O:List Int) (n k:Nat):List Bool:=X7 O k++List.replicate (n - k) false
theorem S4 {O:List Int} {n k:Nat} (h:k<=n):(X8 O n k).length=n:=by simp [X8,Jl];omega
theorem S5 {O:List Int} {n k:Nat} (h:k<n) (hO:k<O.length):(X8 O n k).set k (decide (O[k]>=0))=X8 O n (k+1):=by
 obtain ⟨m,hm⟩:∃ m,n - k=m+1:=⟨n - k - 1,by omega⟩
 have hm2:n - (k+1)=m:=by omega
 have hl:=Jl O k
 have hOk:WO O (-1) k=O[k]:=C1 hO
 unfold X8
 rw [hm,hm2,List.replicate_succ,List.set_append_right _ _ (by omega),hl,Nat.sub_self,List.set_cons_zero]
 simp [X7,List.range_succ,hOk]
theorem S6 (O:List Int) (n:Nat):X8 O n n=X7 O n:=by simp [X8]
set_option maxHeartbeats 2000000 in
theorem TY (R:List (List Ar)) (hv:Bv R=true) (hn:R.length<=1000000) (hr:∀ r∈R,r.length<=1000000):FC Tryz.prog 38 [B7 R] [] (fun r o=>∃ B,DvL R B/\r=.a (.c (.s 0 R.length))/\o=[.r ⟨4,1,true,WU B⟩]):=by
 refine A6 Tryz.func38 rfl (by rw [Tryz.ntmps38];simp) ?_
 rw [Tryz.ntmps38]
 simp only [Bf,B7]
 have hlo:BE R=true:=gEg (gE4 hv).1
 have h1:1<=R.length:=(gE4 hlo).1
 (refine Wt ?_;(repeat clear hK K);repeat refine kq fun K hK=>?_)
 (refine Wy (CD R (by omega) (fun r h=>by have:=hr r h;omega)) ?_;intro K1 hK1)
 rintro _ _ ⟨rfl,rfl⟩
 (refine Wz ?_;clear hK1 K1)
 (refine Wu (an @hv @Bool.not_true) ?_;(repeat clear hK K);repeat refine kq fun K hK=>?_)
 refine WC ?_
 (refine Wt ?_;(repeat clear hK K);repeat refine kq fun K hK=>?_)
 (refine AJ [0] (.m 2 1 3 (.m 1 1 4 (.m 0 1 5 (.a 3 (.a 4 (.a 5 (.m 6 0 0 .e))))))) (by kernel_rfl) (by kernel_rfl) (by intro c st h;simp [Ae,AF,VT] at h) ?_)
 (refine Wv ?_;repeat clear hK K)
 (refine Ga rfl rfl rfl ?_;intro K1 hK1;refine yX [] ?_;refine xz [] (Kw R true hv h1 hn hr) ?_ ?_)
 ·rintro _ _ ⟨_,_,rfl,rfl⟩ i o hi hl;simp at hl
 rintro _ _ ⟨D,⟨hD,hL⟩,rfl,rfl⟩
 (refine Wz ?_;clear hK1 K1)
 (refine Wv ?_;repeat clear hK K)
 (refine Ga rfl rfl rfl ?_;intro K1 hK1;refine yX [] ?_;refine xz [] (PR R D hlo hD hn hr) ?_ ?_)
 ·rintro _ _ ⟨rfl,rfl⟩ i o hi hl;simp at hl
 rintro _ _ ⟨rfl,rfl⟩
 (refine Wz ?_;clear hK1 K1)
 (refine Wv ?_;repeat clear hK K)
 (refine Ga rfl rfl rfl ?_;intro K1 hK1;refine yX [] ?_;refine xz [] (PS R (X1 R D R.length) hlo (F4 _ _ _) hn hr) ?_ ?_)
 ·rintro _ _ ⟨_,_,rfl,rfl⟩ i o hi hl;simp at hl
 rintro _ _ ⟨O,⟨hO,hOi⟩,rfl,rfl⟩
 (refine Wz ?_;clear hK1 K1)
 (refine Wv ?_;repeat clear hK K)
 (refine Wu @A3 ?_;(repeat clear hK K);repeat refine kq fun K hK=>?_)
 have e0:List.replicate R.length (C.v (.bool false))=WU (X8 O R.length 0):=by simp [WU,X7,X8]
 rw [e0]
 refine A8 (fun k:Nat=>{ tm:=[(3,.a (.c (.t 1 (Ab O)))),(4,.a (.c (.s 1 R.length))),(20,.i R.length),(21,.i k)],hp:=[.r ⟨25,1,false,[.t 1 (Ah R)]⟩,.r ⟨4,1,true,WU (X8 O R.length k)⟩],n:=34,pin:=0 }) (fun k=>k<=R.length) (fun k=>R.length - k) 0 ?_ ?_ ?_
 ·omega
 ·exact WE
 rintro k hk K hK
 by_cases hlt:k<R.length
 ·have d1:decide ((k:Int)<(R.length:Int))=true:=by simpa using hlt
  have gO:=Am (gE1 (show k<O.length by omega))
  have hOk:WO O (-1) k=O[k]:=C1 (by omega)
  have hbl:=S4 (O:=O) hk
  have hset:=S5 hlt (show k<O.length by omega)
  (refine Wu @d1 ?_;(repeat clear hK K);repeat refine kq fun K hK=>?_)
  refine WB ?_
  (refine Cn (an @A4 (an @hO (an @gO (an @CM (an @hbl (an @Gi @hset)))))) ?_;(repeat clear hK K);repeat refine kq fun K hK=>?_)
  refine WD ?_
  refine hK _ (k+1) (by omega) (by omega) ?_
  exact WE
 have d1:decide ((k:Int)<(R.length:Int))=false:=by simpa using hlt
 have hke:k=R.length:=by omega
 rw [hke] at d1
 rw [hke,S6]
 (refine Wu @d1 ?_;(repeat clear hK K);repeat refine kq fun K hK=>?_)
 refine WC ?_
 (refine Wx ?_;repeat clear hK K)
 (refine Wt ?_;(repeat clear hK K);repeat refine kq fun K hK=>?_)
 refine WG [1] Tryz.results38 @Cf ?_
 refine ⟨_,⟨Jl _ _,fun s hs=>?_⟩,rfl⟩
 have hgo:(X7 O R.length).getD s false=decide (WO O (-1) s>=0):=by simp [X7,gE2,hs]
 rw [hgo,decide_eq_true_iff]
 show 0<=WO O (-1) s↔_
 rw [hOi s hs]
 constructor
 ·rintro ⟨g,g1,g2,g3⟩
  exact ⟨g,g3,(N8 hlo hD hL g1).1 g2⟩
 rintro ⟨g,g3,g4⟩
 have g1:=g3.lt hs (Cw true hlo)
 exact ⟨g,g1,(N8 hlo hD hL g1).2 g4,g3⟩
theorem Nn (R:List (List Ar)) (hv:Bv R=true) (hn:R.length<=1000000) (hr:∀ r∈R,r.length<=1000000):FC Tryz.prog 38 [B7 R] [] (fun r o=>∃ B,DvL R B/\o=[]/\r=.a (.c (.t 1 (X6 B)))):=
 (TY R hv hn hr).frzP (fun B=>PP B) (by omega) (fun B h=>by rw [BD];have:=h.1;omega)
end Go.Proofs.YtjijjfkalheokaaGreatDoor
