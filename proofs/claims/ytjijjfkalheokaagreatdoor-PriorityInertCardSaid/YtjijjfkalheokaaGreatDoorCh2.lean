/- Lemmas. -/
import Derived.Test.YtjijjfkalheokaaGreatDoorZk
import Derived.Test.YtjijjfkalheokaaGreatDoorG39
import Derived.Test.YtjijjfkalheokaaGreatDoorG11
import Derived.Test.YtjijjfkalheokaaGreatDoorDl2
import Derived.Test.YtjijjfkalheokaaGreatDoorW07
import Derived.Test.YtjijjfkalheokaaGreatDoorG70
import Derived.Test.YtjijjfkalheokaaGreatDoorG45
import Derived.Test.YtjijjfkalheokaaGreatDoorMF
import Derived.Test.YtjijjfkalheokaaGreatDoorG67
import Derived.Test.YtjijjfkalheokaaGreatDoorG37
import Derived.Test.YtjijjfkalheokaaGreatDoorShlfD
import Derived.Test.YtjijjfkalheokaaGreatDoorWk2
import Derived.Test.YtjijjfkalheokaaGreatDoorMD
import Derived.Test.YtjijjfkalheokaaGreatDoorMno
import Derived.Test.YtjijjfkalheokaaGreatDoorG48
import Derived.Test.YtjijjfkalheokaaGreatDoorMK
namespace Go.Proofs.YtjijjfkalheokaaGreatDoor
set_option linter.unusedVariables false
set_option linter.unusedSimpArgs false
open Go.RowKit
set_option maxRecDepth 100000
attribute [local go_sem] lga C.pl C.one

set_option maxRecDepth 100000 in
theorem Og (ts:List Tr) (hn:ts.length<=100000000):FC Tryz.prog 35 [.a (.c (.t 1 ts))] [] (fun r o=>r=.a (.c (.s 0 (ts.length / 1)))/\o=[.r ⟨42,1,true,ts.map C.ofTr⟩]):=by
 refine A6 Tryz.func35 rfl (by rw [Tryz.ntmps35];simp) ?_
 rw [Tryz.ntmps35]
 simp only [Bf]
 (refine Wt ?_;(repeat clear hK K);repeat refine kq fun K hK=>?_)
 refine Ai rfl ?_;intro K1 hK1
 refine J4 rfl rfl Tryz.underlying23 (.inl rfl) (.inl ⟨1,ts,by simp only [go_sem],?_⟩)
 intro b hb
 simp only [go_sem]
 refine hK1 _ ?_;clear hK1 K1
 (refine Wt ?_;(repeat clear hK K);repeat refine kq fun K hK=>?_)
 (refine At ?_;intro X Y hX hY;simp only [go_sem])
 refine ⟨fun h=>hX ?_,fun h=>hY ?_⟩
 ·have hts:=hb h
  subst hts
  (refine Wt ?_;(repeat clear hK K);repeat refine kq fun K hK=>?_)
  refine Av ?_
  simp only [Ae]
  refine B6 (CT 2 42 1 ?_) ?_
  ·simp only [go_sem]
  exact M6 Tryz.results35
 clear hX hY X Y
 (refine Wt ?_;(repeat clear hK K);repeat refine kq fun K hK=>?_)
 refine Av ?_
 refine B6 (A9 [1] rfl rfl) ?_
 (try simp only [List.set_nil,List.take_nil,List.take_zero,List.map_append,go_sem])
 exact M6 Tryz.results35
theorem Oh (R:List (List Ar)):(Ah R).map C.ofTr=AO R:=by
 unfold Ah AO
 rw [List.map_map]
 rfl
def Yj (r:List Ar):List Ar:=if Xd r then r else r.take 1
def Yk (R:List (List Ar)) (k:Nat):List (List Ar):=(R.take k).map Yj++R.drop k
theorem Oi (R:List (List Ar)) (k:Nat):(Yk R k).length=R.length:=by simp [Yk];omega
theorem Oj {R:List (List Ar)} {k:Nat} (h:k<R.length):(Yk R k)[k]?=some R[k]:=by
 unfold Yk
 rw [gEb (by simp;omega),List.getElem?_drop,List.length_map,List.length_take,Nat.min_eq_left (by omega)]
 rw [show k+(k - k)=k by omega,gE1 h]
theorem Qw {R:List (List Ar)} {k:Nat} (h:k<R.length):Yk R (k+1)=(Yk R k).set k (Yj R[k]):=by
 unfold Yk
 rw [List.set_append_right _ _ (by simp;omega),gE8 h,List.map_append,List.append_assoc]
 congr 1
 rw [List.length_map,List.length_take,Nat.min_eq_left (by omega),Nat.sub_self]
 rw [List.drop_eq_getElem_cons h]
 rfl
theorem SP (R:List (List Ar)):Yk R R.length=R.map Yj:=by simp [Yk]
theorem HH (r:List Ar):(Yj r).length<=r.length:=by
 unfold Yj
 split
 ·exact Nat.le_refl _
 rw [List.length_take];omega
theorem SQ {r:List Ar} {a:Ar} (h:a∈Yj r):a∈r:=by
 unfold Yj at h
 split at h
 ·exact h
 exact List.mem_of_mem_take h
theorem Ol:∀ R:List (List Ar),Bw (R.map Yj)<=Bw R
 | []=>Nat.le_refl _
 | r :: R=>by
  have h1:=Ol R
  have h2:=HH r
  simp only [Bw,List.map_cons,List.sum_cons] at h1 ⊢
  omega
theorem LV (X:List (List Ar)) (k:Nat) (r:List Ar):(AO X).set k (.t 2 (Ao r))=AO (X.set k r):=by
 unfold AO
 rw [<- List.map_set]
theorem LW {X:List (List Ar)} {k:Nat} {r:List Ar} (h:X[k]?=some r):(AO X)[k]?=some (.t 2 (Ao r)):=by
 unfold AO
 rw [List.getElem?_map,h];rfl
theorem Om {R:List (List Ar)} (hv:Bv R=true):BE (R.map Yj)=true:=by
 have h:=(gE4 hv).1
 have ht:=Ol R
 refine gEg ⟨by rw [List.length_map];exact h.1,by rw [List.length_map];exact h.2.1,by have:=h.2.2.1;omega,?_⟩
 intro r hr a ha
 obtain ⟨q,hq,rfl⟩:=List.mem_map.1 hr
 rw [List.length_map]
 exact h.2.2.2 q hq a (SQ ha)
set_option maxHeartbeats 4000000 in
theorem Qx (R:List (List Ar)) (hv:Bv R=true) (hn:R.length<=1000000) (hr:∀ r∈R,r.length<=1000000):FC Tryz.prog 14 [B7 R] [] (fun r o=>o=[.r ⟨25,1,false,[.t 1 (Ah (BT (R.map Yj)).1)]⟩]/\r=.tup [.g [.t 1 (Ah (BT (R.map Yj)).1)],.c (.v (.int .i64 0))]):=by
 refine A6 Tryz.func14 rfl (by rw [Tryz.ntmps14];simp) ?_
 rw [Tryz.ntmps14]
 have hlo:BE R=true:=gEg (gE4 hv).1
 have h1:1<=R.length:=(gE4 hlo).1
 simp only [Bf,B7]
 (refine Wt ?_;(repeat clear hK K);repeat refine kq fun K hK=>?_)
 (refine Wy (CD R (by omega) (fun r h=>by have:=hr r h;omega)) ?_;intro K1 hK1)
 rintro _ _ ⟨rfl,rfl⟩
 (refine Wz ?_;clear hK1 K1)
 rw [hv]
 (refine Wu @Bool.not_true ?_;(repeat clear hK K);repeat refine kq fun K hK=>?_)
 refine WC ?_
 (refine Wt ?_;(repeat clear hK K);repeat refine kq fun K hK=>?_)
 (refine Wy (Og (Ah R) (by rw [A3];omega)) ?_;intro K1 hK1)
 rintro _ _ ⟨rfl,rfl⟩
 (refine Wz ?_;clear hK1 K1)
 rw [Oh,A3]
 have hst:=fun k (h:k<R.length)=>Iw R k h hn hr
 simp only [B7] at hst
 (refine Wt ?_;(repeat clear hK K);repeat refine kq fun K hK=>?_)
 refine A8 (fun k:Nat=>{ tm:=[(1,.a (.c (.p 0 0))),(2,.a (.c (.p 1 0))),(3,.a (.c (.v (.int .i64 0)))),(4,.a (.c (.s 2 R.length))),(17,.i R.length),(18,.i k)],hp:=[.r ⟨25,1,false,[.t 1 (Ah R)]⟩,.r ⟨25,1,false,[.v (.slice none 0 0)]⟩,.r ⟨42,1,true,AO (Yk R k)⟩],n:=43,pin:=0 }) (fun k=>k<=R.length) (fun k=>R.length - k) 0 ?_ ?_ ?_
 ·omega
 ·have h0:Yk R 0=R:=by simp [Yk]
  rw [h0]
  exact WE
 rintro k hk K hK
 by_cases hlt:k<R.length
 rotate_left
 ·have d1:decide ((k:Int)<(R.length:Int))=false:=by simpa using hlt
  have hke:k=R.length:=by omega
  subst hke
  rw [SP]
  (refine Wu @d1 ?_;(repeat clear hK K);repeat refine kq fun K hK=>?_)
  refine WC ?_
  (refine Wx ?_;repeat clear hK K)
  have hlC:=Om hv
  have hrC:∀ r∈R.map Yj,r.length<=1000000:=fun r h=>by
   obtain ⟨q,hq,rfl⟩:=List.mem_map.1 h
   have:=HH q
   have:=hr q hq
   omega
  have hlm:(R.map Yj).length=R.length:=List.length_map _
  generalize R.map Yj=T at *
  have htk:(Ah T).take R.length=Ah T:=gE7 (by rw [A3];omega)
  (refine Au (Bg (r:=⟨42,1,true,AO T⟩) 2 (Ah T) rfl (CZ _) (show 0<(1:Nat) by omega)) ?_;simp only [ST.frz,A0.frz,AV.frz,C.frz,Nat.le_refl,List.set_cons_zero,List.set_cons_succ,go_sem,htk,A3,hlm])
  (refine Wt ?_;(repeat clear hK K);repeat refine kq fun K hK=>?_)
  (refine Wy (Iv T hlC (by omega) hrC) ?_;intro K1 hK1)
  rintro _ _ ⟨rfl,rfl⟩
  (refine Wz ?_;clear hK1 K1)
  (refine Jb ?_;(repeat clear hK K);repeat refine kq fun K hK=>?_)
  exact Lq [1] Tryz.results14
 have d1:decide ((k:Int)<(R.length:Int))=true:=by simpa using hlt
 have hg:=LW (Oj hlt)
 have hsu:=Qw hlt
 have hlen:(AO (Yk R k)).length=R.length:=by unfold AO;rw [List.length_map,Oi]
 (refine Wu @d1 ?_;(repeat clear hK K);repeat refine kq fun K hK=>?_)
 refine WB ?_
 (refine Wt ?_;(repeat clear hK K);repeat refine kq fun K hK=>?_)
 (refine Wy (hst k hlt) ?_;intro K1 hK1)
 rintro _ _ ⟨rfl,rfl⟩
 (refine Wz ?_;clear hK1 K1)
 (refine Wt ?_;(repeat clear hK K);repeat refine kq fun K hK=>?_)
 (refine At ?_;intro X Y hX hY;simp only [go_sem])
 refine ⟨fun h=>hX ?_,fun h=>hY ?_⟩
 rotate_left
 ·clear hX hY X Y
  have e:Yk R (k+1)=Yk R k:=by
   rw [hsu]
   have:Yj R[k]=R[k]:=by unfold Yj;rw [if_pos (by simpa using h)]
   rw [this]
   refine List.ext_getElem? fun j=>?_
   by_cases hj:k=j
   rotate_left
   ·rw [gE5 hj]
   subst hj
   rw [gEc (by rw [Oi];exact hlt),Oj hlt]
  (refine Wt ?_;(repeat clear hK K);repeat refine kq fun K hK=>?_)
  refine WD ?_
  refine hK _ (k+1) (by omega) (by omega) ?_
  rw [e]
  exact WE
 obtain ⟨a,q,hq⟩:∃ a q,R[k]=a :: q:=by
  cases e:R[k] with
  | nil=>rw [e] at h;simp [Xd] at h
  | cons a q=>exact ⟨a,q,rfl⟩
 rw [hq] at hg
 clear hX hY X Y
 have h2:(Ao (a :: q)).take 2=Ao (Yj R[k]):=by
  have:Yj R[k]=[a]:=by unfold Yj;rw [if_neg (by simpa using h),hq];rfl
  rw [this];rfl
 (refine Cn (an @hg (an @hlen (an @A2 (an @List.length_cons.{0} (an @Int.toNat_one (an @h2 @LV)))))) ?_;(repeat clear hK K);repeat refine kq fun K hK=>?_)
 refine WD ?_
 refine hK _ (k+1) (by omega) (by omega) ?_
 rw [hsu]
 exact WE
theorem L9 {α:Type} (l:List α) (i:Nat) (a b:α):(l.set i a).set i b=l.set i b:=List.set_set ..
def Ys (o:List Ar) (r:List Ar):List Ar:=r.filter fun a=>!(E5 r).any (fun e=>IJ o a.1 e)
def Yt (o:List Ar) (R:List (List Ar)) (k:Nat):List (List Ar):=(R.take k).map (Ys o)++List.replicate (R.length - k) []
theorem Te (o:List Ar) (R:List (List Ar)) (k:Nat) (h:k<=R.length):(Yt o R k).length=R.length:=by simp [Yt];omega
theorem Tf {o:List Ar} {R:List (List Ar)} {k:Nat} (h:k<R.length):(Yt o R k)[k]?=some []:=by
 unfold Yt
 rw [gEb (by simp;omega),List.length_map,List.length_take,Nat.min_eq_left (by omega),Nat.sub_self,List.getElem?_replicate,if_pos (by omega)]
theorem Zb {o:List Ar} {R:List (List Ar)} {k:Nat} (h:k<R.length):Yt o R (k+1)=(Yt o R k).set k (Ys o R[k]):=by
 unfold Yt
 rw [List.set_append_right _ _ (by simp;omega),gE8 h,List.map_append,List.append_assoc]
 congr 1
 rw [List.length_map,List.length_take,Nat.min_eq_left (by omega),Nat.sub_self,show R.length - k=(R.length - (k+1))+1 by omega,List.replicate_succ]
 rfl
theorem Tg (o:List Ar) (R:List (List Ar)):Yt o R R.length=R.map (Ys o):=by simp [Yt]
theorem OL (o:List Ar) (r:List Ar):(Ys o r).length<=r.length:=List.length_filter_le _ _
theorem OM (o:List Ar):∀ R:List (List Ar),Bw (R.map (Ys o))<=Bw R
 | []=>Nat.le_refl _
 | r :: R=>by
  have h1:=OM o R
  have h2:=OL o r
  simp only [Bw,List.map_cons,List.sum_cons] at h1 ⊢
  omega
theorem Uz {R:List (List Ar)} (o:List Ar) (hv:Bv R=true):BE (R.map (Ys o))=true:=by
 have h:=(gE4 hv).1
 have ht:=OM o R
 refine gEg ⟨by rw [List.length_map];exact h.1,by rw [List.length_map];exact h.2.1,by have:=h.2.2.1;omega,?_⟩
 intro r hr a ha
 obtain ⟨q,hq,rfl⟩:=List.mem_map.1 hr
 rw [List.length_map]
 exact h.2.2.2 q hq a (List.mem_filter.1 ha).1
set_option maxHeartbeats 4000000 in
theorem ON (R:List (List Ar)) (o:List Ar) (hv:Bv R=true) (hn:R.length<=1000000) (hr:∀ r∈R,r.length<=1000000) (hol:o.length<=1000000) (ho:M8 o=true) (hs:SortA o) (hh:∀ a∈o,0<=a.2) (hc:∀ a∈o,E2 a.1=true):FC Tryz.prog 33 [B7 R,BK o] [] (fun r q=>q=[.r ⟨25,1,false,[.t 1 (Ah (BT (R.map (Ys o))).1)]⟩]/\r=.tup [.g [.t 1 (Ah (BT (R.map (Ys o))).1)],.c (.v (.int .i64 0))]):=by
 refine A6 Tryz.func33 rfl (by rw [Tryz.ntmps33];simp) ?_
 rw [Tryz.ntmps33]
 have hlo:BE R=true:=gEg (gE4 hv).1
 have h1:1<=R.length:=(gE4 hlo).1
 have hva:=CD R (by omega) (fun r h=>by have:=hr r h;omega)
 rw [hv] at hva
 have hpo:=Tc o (by omega)
 rw [ho] at hpo
 have hin:=fun s (h:s<R.length)=>Jv R s h hn hr
 simp only [Bf,B7,BK] at hva hpo hin ⊢
 (refine Wt ?_;(repeat clear hK K);repeat refine kq fun K hK=>?_)
 (refine Wy hva ?_;intro K1 hK1)
 rintro _ _ ⟨rfl,rfl⟩
 (refine Wz ?_;clear hK1 K1)
 (refine Wu @Bool.not_true ?_;(repeat clear hK K);repeat refine kq fun K hK=>?_)
 (refine BV rfl rfl (by simp only [go_sem] <;> rfl) ?_;intro K1 hK1;refine (Bb (ids:=[]) (hpo) rfl rfl (by simp only [go_sem]) (by kernel_rfl) (by (simp only [List.append_nil,go_sem]) <;> rfl) ?_).stp)
 rintro _ _ ⟨rfl,rfl⟩
 (refine Wz ?_;clear hK1 K1)
 (refine Wu @Bool.not_true ?_;(repeat clear hK K);repeat refine kq fun K hK=>?_)
 refine WC ?_
 (refine Wu @A3 ?_;(repeat clear hK K);repeat refine kq fun K hK=>?_)
 have e0:List.replicate R.length (C.o (2,46) [])=Aw (Yt o R 0):=by simp [Aw,Yt,Ao]
 rw [e0]
 refine A8 (fun k:Nat=>{ tm:=[(2,.a (.c (.p 0 0))),(3,.a (.c (.p 1 0))),(4,.a (.c (.p 2 0))),(5,.a (.c (.v (.int .i64 0)))),(6,.a (.c (.s 3 R.length))),(29,.a (.c (.t 1 (Ah R)))),(30,.i R.length),(31,.i k)],hp:=[.r ⟨25,1,false,[.t 1 (Ah R)]⟩,.r ⟨50,1,false,[.t 2 (Ao o)]⟩,.r ⟨25,1,false,[.v (.slice none 0 0)]⟩,.r ⟨42,1,true,Aw (Yt o R k)⟩],n:=70,pin:=0 }) (fun k=>k<=R.length) (fun k=>R.length - k) 0 ?_ ?_ ?_
 ·omega
 ·exact WE
 rintro k hk K hK
 by_cases hlt:k<R.length
 rotate_left
 ·have d1:decide ((k:Int)<(R.length:Int))=false:=by simpa using hlt
  have hke:k=R.length:=by omega
  subst hke
  rw [Tg]
  (refine Wu @d1 ?_;(repeat clear hK K);repeat refine kq fun K hK=>?_)
  refine WC ?_
  (refine Wx ?_;repeat clear hK K)
  refine Au (Cm 3 rfl) ?_
  simp only [Cl,go_sem]
  have hlC:=Uz o hv
  have hrC:∀ r∈R.map (Ys o),r.length<=1000000:=fun r h=>by
   obtain ⟨q,hq,rfl⟩:=List.mem_map.1 h
   have:=OL o q
   have:=hr q hq
   omega
  have hlm:(R.map (Ys o)).length=R.length:=List.length_map _
  generalize R.map (Ys o)=T at *
  have htk:(Ah T).take R.length=Ah T:=gE7 (by rw [A3];omega)
  (refine Au (Bg (r:=⟨42,1,true,AO T⟩) 3 (Ah T) rfl (CZ _) (show 0<(1:Nat) by omega)) ?_;simp only [ST.frz,A0.frz,AV.frz,C.frz,Nat.le_refl,List.set_cons_zero,List.set_cons_succ,go_sem,htk,A3,hlm])
  (refine Wt ?_;(repeat clear hK K);repeat refine kq fun K hK=>?_)
  (refine Wy (Iv T hlC (by omega) hrC) ?_;intro K1 hK1)
  rintro _ _ ⟨rfl,rfl⟩
  (refine Wz ?_;clear hK1 K1)
  (refine Jb ?_;(repeat clear hK K);repeat refine kq fun K hK=>?_)
  exact Lq [2] Tryz.results33
 have d1:decide ((k:Int)<(R.length:Int))=true:=by simpa using hlt
 have hg:=Ag (gE1 hlt)
 have hsu:=Zb (o:=o) hlt
 have hXl:=Te o R k hk
 have hXg:=Tf (o:=o) hlt
 have hrl:=hr _ (gE6 hlt)
 generalize Yt o R k=Z at *
 (refine Wu @d1 ?_;(repeat clear hK K);repeat refine kq fun K hK=>?_)
 refine WB ?_
 (refine Wu (an @hg @A3) ?_;(repeat clear hK K);repeat refine kq fun K hK=>?_)
 (refine Wy (hin k hlt) ?_;intro K1 hK1)
 rintro _ _ ⟨rfl,rfl⟩
 (simp only [As,Bl,BQ,List.append_nil,List.nil_append,List.length_map,go_sem];refine hK1 _ ?_;clear hK1 K1)
 generalize R[k]=row at *
 have hrw:(Ys o row)=((row.take row.length).filter fun a=>!(E5 row).any (fun e=>IJ o a.1 e)):=by rw [List.take_length];rfl
 rw [hrw] at hsu
 have htk:(Ab (E5 row)).take (E5 row).length=Ab (E5 row):=gE7 (by rw [A4];exact Nat.le_refl _)
 (refine BS (Bg (r:=⟨3,1,true,A7 (E5 row)⟩) 4 (Ab (E5 row)) rfl (EM _) (show 0<(1:Nat) by omega)) ?_;simp only [ST.frz,A0.frz,AV.frz,C.frz,Nat.le_refl,List.set_cons_zero,List.set_cons_succ,go_sem,A4,htk])
 (refine Wu (an @A2 @Ak) ?_;(repeat clear hK K);repeat refine kq fun K hK=>?_)
 have hZ0:Z=Z.set k ((row.take 0).filter fun a=>!(E5 row).any (fun e=>IJ o a.1 e)):=by
  refine List.ext_getElem? fun j=>?_
  by_cases hj:k=j
  rotate_left
  ·rw [gE5 hj]
  subst hj
  rw [gEc (by omega),hXg];rfl
 refine A8 (fun j:Nat=>{ tm:=[(2,.a (.c (.p 0 0))),(3,.a (.c (.p 1 0))),(4,.a (.c (.p 2 0))),(5,.a (.c (.v (.int .i64 0)))),(6,.a (.c (.s 3 R.length))),(7,.i k),(9,.a (.c (.t 1 (Ab (E5 row))))),(29,.a (.c (.t 1 (Ah R)))),(30,.i R.length),(31,.i k),(39,.a (.c (.t 2 (Ao row)))),(40,.i row.length),(41,.i j)],hp:=[.r ⟨25,1,false,[.t 1 (Ah R)]⟩,.r ⟨50,1,false,[.t 2 (Ao o)]⟩,.r ⟨25,1,false,[.v (.slice none 0 0)]⟩,.r ⟨42,1,true,Aw (Z.set k ((row.take j).filter fun a=>!(E5 row).any (fun e=>IJ o a.1 e)))⟩],n:=70,pin:=0 }) (fun j=>j<=row.length) (fun j=>row.length - j) 0 ?_ ?_ ?_
 ·omega
 ·rw [<- hZ0]
  refine Le.trans (A9 [0,1,2,3] rfl rfl) ?_
  (try simp only [List.set_nil,List.take_nil,List.take_zero,List.map_append,go_sem])
  (try simp only [Ch])
  exact WE
 rintro j hj K hK
 by_cases hlj:j<row.length
 rotate_left
 ·have d2:decide ((j:Int)<(row.length:Int))=false:=by simpa using hlj
  have hje:j=row.length:=by omega
  subst hje
  rw [<- hsu]
  (refine Wu @d2 ?_;(repeat clear hK K);repeat refine kq fun K hK=>?_)
  refine WC ?_
  (refine Wx ?_;repeat clear hK K)
  (refine Wt ?_;(repeat clear hK K);repeat refine kq fun K hK=>?_)
  refine WD ?_
  refine hK _ (k+1) (by omega) (by omega) ?_
  exact WE
 have d2:decide ((j:Int)<(row.length:Int))=true:=by simpa using hlj
 have hat:=AL hlj
 have htj:=gE8 hlj
 obtain ⟨e,t,hya⟩:∃ e t,row[j]=(e,t):=⟨_,_,rfl⟩
 rw [hya] at hat htj
 have hil:=KS row
 have hcf:=HL (E5 row) (fun x=>IJ o e x) 61 50 1 46 2 [Tr.l 2 (Ao o)] [Tr.v (.int .i64 e),Tr.v (.int .i64 t)] (by omega) (by kernel_rfl) (fun x _=>Uy o (e,t) x hol hs hh hc)
 simp only [As,List.map_cons,List.map_nil,go_sem] at hcf
 (refine Wu @d2 ?_;(repeat clear hK K);repeat refine kq fun K hK=>?_)
 refine WB ?_
 (refine Cn (an @hat (an @A2 @Ak)) ?_;(repeat clear hK K);repeat refine kq fun K hK=>?_)
 (refine Ai rfl ?_;intro K1 hK1;refine cs [1,4] (hcf) ?_ ?_)
 ·rintro _ _ ⟨rfl,rfl⟩;rfl
 rintro _ _ ⟨rfl,rfl⟩
 (refine Wz ?_;clear hK1 K1)
 (refine Wt ?_;(repeat clear hK K);repeat refine kq fun K hK=>?_)
 (refine At ?_;intro X Y hX hY;simp only [go_sem])
 refine ⟨fun h=>hX ?_,fun h=>hY ?_⟩
 rotate_left
 ·have hkp:((row.take (j+1)).filter fun a=>!(E5 row).any (fun e=>IJ o a.1 e))=((row.take j).filter fun a=>!(E5 row).any (fun e=>IJ o a.1 e)):=by
   rw [htj,List.filter_append,List.filter_cons_of_neg (by simpa using h),List.filter_nil,List.append_nil]
  clear hX hY X Y
  (refine Wt ?_;(repeat clear hK K);repeat refine kq fun K hK=>?_)
  refine WD ?_
  refine hK _ (j+1) (by omega) (by omega) ?_
  refine Le.trans (A9 [0,1,2,3] rfl rfl) ?_
  (try simp only [List.set_nil,List.take_nil,List.take_zero,List.map_append,go_sem])
  (try simp only [Af,Ch])
  rw [hkp]
  exact WE
 have hkp:((row.take (j+1)).filter fun a=>!(E5 row).any (fun e=>IJ o a.1 e))=((row.take j).filter fun a=>!(E5 row).any (fun e=>IJ o a.1 e))++[(e,t)]:=by
  rw [htj,List.filter_append,List.filter_cons_of_pos (by simpa using h),List.filter_nil]
 have hcl:((row.take j).filter fun a=>!(E5 row).any (fun e=>IJ o a.1 e)).length<=1000000:=Nat.le_trans (List.length_filter_le _ _) (by rw [List.length_take];omega)
 generalize ((row.take j).filter fun a=>!(E5 row).any (fun e=>IJ o a.1 e))=oc at *
 have hYl:(Z.set k oc).length=R.length:=by rw [List.length_set];exact hXl
 have hgo:(Z.set k oc)[k]?=some oc:=gEc (by omega)
 have hYs:(Z.set k oc).set k (oc++[(e,t)])=Z.set k (oc++[(e,t)]):=List.set_set ..
 generalize Z.set k oc=Y2 at *
 clear hX hY X Y
 (refine AJ [] (.m 0 0 0 (.m 1 0 0 (.m 2 0 0 (.m 3 0 0 (.m 4 0 0 (.m 5 1 8 (.m 6 1 7 (.a 7 (.a 8 (.m 9 0 0 (.a 10 .e))))))))))) (by kernel_rfl) (by kernel_rfl) (by intro c st h;simp [Ae,AF,VT] at h) ?_)
 (refine Ww (an @AB (an (B8 hgo) @hYl)) ?_;repeat clear hK K)
 (refine Wj rfl rfl ?_;intro K1 hK1;refine Bx rfl ?_;simp only [go_sem];(first | refine hK1 _ ?_ | refine AD (hK1 _ ?_));clear hK1 K1)
 (refine Ga rfl rfl rfl ?_;intro K1 hK1;refine CK rfl rfl rfl rfl (by first | rfl | simp only [CQ,List.getD_cons_zero,List.getD_cons_succ,hne,List.isEmpty_cons,Bool.not_false,Bool.true_and,Bool.and_true,Bool.and_self]) rfl ?_;simp only [go_sem,Cp,A2,Ak,BF,B8 hgo];(first | refine hK1 _ ?_ | refine AD (hK1 _ ?_));clear hK1 K1)
 (refine Ww (an @AB @hYl) ?_;repeat clear hK K)
 (refine Wk rfl rfl rfl rfl ?_;intro K1 hK1;refine AP rfl ?_;simp only [go_sem,AB,List.length_set,L9,hYl];(first | refine hK1 _ ?_ | refine AD (hK1 _ ?_));clear hK1 K1)
 refine CL ⟨by simp,by simp,?_⟩
 (try simp only [Ae,AF])
 refine hK _ ?_
 clear hK K
 have hj6:((Aw Y2).set k (C.s 6 (oc.length+1)))[k]?=some (.s 6 (oc.length+1)):=by rw [gEc (by rw [AB];omega)]
 have hset6:((Aw Y2).set k (C.s 6 (oc.length+1))).set k (.o (2,46) (Ao (oc++[(e,t)])))=Aw (Y2.set k (oc++[(e,t)])):=by rw [L9,C3]
 refine Au (AR (r:=⟨46,2,true,Ax (oc++[(e,t)])⟩) (ri:=⟨42,1,true,(Aw Y2).set k (C.s 6 (oc.length+1))⟩) (ts:=Ao (oc++[(e,t)])) 3 k 6 (oc.length+1) (by decide) rfl hj6 rfl rfl (show 0<2 by omega) (by rw [Ap];simp) (Dl _)) ?_
 simp only [hset6,go_sem]
 (refine Wt ?_;(repeat clear hK K);repeat refine kq fun K hK=>?_)
 refine WD ?_
 refine hK _ (j+1) (by omega) (by omega) ?_
 refine Le.trans (A9 [0,1,2,3] rfl rfl) ?_
 (try simp only [List.set_nil,List.take_nil,List.take_zero,List.map_append,go_sem])
 (try simp only [Af,Ch])
 rw [hkp,<- hYs]
 exact WE
theorem YJ {E:Nat->List Nat} {s u:Nat} (h:E s=[]) (hr:Rc E s u):u=s:=by
 induction hr with
 | refl=>rfl
 | tail _ hw ih=>rw [ih,h] at hw;simp at hw
section
variable {o : List Ar} {A : List (List Ar)}
end
def Xg (R:List (List Ar)) (s:Int):Bool:=decide (0<=s) && decide (s<(R.length:Int))
theorem U3 (R:List (List Ar)) (s:Int):FC Tryz.prog 105 [B7 R,.i s] [] (fun r o=>o=[]/\r=.b (Xg R s)):=by
 refine A6 Tryz.func105 rfl (by rw [Tryz.ntmps105];simp) ?_
 rw [Tryz.ntmps105]
 simp only [Bf,B7]
 by_cases h0:0<=s
 rotate_left
 ·have c1:decide (s>=0)=false:=decide_eq_false (by omega)
  have c2:Xg R s=false:=by unfold Xg;rw [decide_eq_false h0];rfl
  (refine Wu (an @c1 @A3) ?_;(repeat clear hK K);repeat refine kq fun K hK=>?_)
  refine WF [] Tryz.results105 ?_
  rw [c2]
 have c1:decide (s>=0)=true:=gEg (by omega)
 have c2:Xg R s=decide (s<(R.length:Int)):=by unfold Xg;rw [gEg h0];rfl
 (refine Wu (an @c1 @A3) ?_;(repeat clear hK K);repeat refine kq fun K hK=>?_)
 refine WF [] Tryz.results105 ?_
 rw [c2]
theorem Sc (R:List (List Ar)) (s:Int):FC Tryz.prog 104 [.i s,.a (.c (.p 0 0))] [.r ⟨25,1,false,[Tr.l 1 (Ah R)].map C.ofTr⟩] (fun r o=>o=[.r ⟨25,1,false,[Tr.l 1 (Ah R)].map C.ofTr⟩]/\r=.b (!Xg R s)):=by
 refine A6 Tryz.func104 rfl (by rw [Tryz.ntmps104];simp) ?_
 rw [Tryz.ntmps104]
 simp only [Bf]
 (refine Wt ?_;(repeat clear hK K);repeat refine kq fun K hK=>?_)
 (refine Wy (U3 R s) ?_;intro K1 hK1)
 rintro _ _ ⟨rfl,rfl⟩
 (refine Wz ?_;clear hK1 K1)
 (refine Wt ?_;(repeat clear hK K);repeat refine kq fun K hK=>?_)
 exact M6 Tryz.results104
theorem Sd (R:List (List Ar)) (F:List Int) (hn:R.length<=1000000) (hr:∀ r∈R,r.length<=1000000) (hF:F.length<=1000000):FC Tryz.prog 72 [B7 R,As F] [] (fun r o=>o=[]/\r=.b (Bv R && !F.any fun s=>!Xg R s)):=by
 refine A6 Tryz.func72 rfl (by rw [Tryz.ntmps72];simp) ?_
 rw [Tryz.ntmps72]
 simp only [Bf,B7,As]
 (refine Wt ?_;(repeat clear hK K);repeat refine kq fun K hK=>?_)
 (refine Wy (CD R (by omega) (fun r h=>by have:=hr r h;omega)) ?_;intro K1 hK1)
 rintro _ _ ⟨rfl,rfl⟩
 (refine Wz ?_;clear hK1 K1)
 cases hv:Bv R with
 | false=>
  (refine Wt ?_;(repeat clear hK K);repeat refine kq fun K hK=>?_)
  refine WF [] Tryz.results72 ?_
  simp [hv]
 | true=>
  (refine Wt ?_;(repeat clear hK K);repeat refine kq fun K hK=>?_)
  (refine BV rfl rfl (by simp only [go_sem] <;> rfl) ?_;intro K1 hK1;refine cs [0] (EV F (fun s=>!Xg R s) 104 25 1 [Tr.l 1 (Ah R)] (by omega) (by kernel_rfl) (fun x _=>Sc R x)) ?_ ?_)
  ·rintro _ _ ⟨rfl,rfl⟩;rfl
  rintro _ _ ⟨rfl,rfl⟩
  (refine Wz ?_;clear hK1 K1)
  (refine Wt ?_;(repeat clear hK K);repeat refine kq fun K hK=>?_)
  refine WF [] Tryz.results72 ?_
  simp [hv]
set_option maxHeartbeats 2000000 in
theorem LM (R:List (List Ar)) (t:Bool) (F:List Nat) (hv:Bv R=true) (hn:R.length<=1000000) (hr:∀ r∈R,r.length<=1000000) (hF:∀ v∈F,v<R.length) (hFl:F.length<=1000000):
  FC Tryz.prog 39 [B7 R,As (F.map Int.ofNat),.b t] [] (fun r o=>∃ p:Nat->Bool,(∀ u,u<R.length->(p u=true↔∃ v∈F,Rc (WP t R) v u))/\r=.a (.c (.s 0 (FJ R.length p).length))/\o=[.r ⟨3,1,true,A7 ((FJ R.length p).map Int.ofNat)⟩]):=by
 refine A6 Tryz.func39 rfl (by rw [Tryz.ntmps39];simp) ?_
 rw [Tryz.ntmps39]
 have hlo:BE R=true:=gEg (gE4 hv).1
 have hgs:=Sd R (F.map Int.ofNat) hn hr (by rw [List.length_map];exact hFl)
 have hst:(Bv R && !(F.map Int.ofNat).any fun s=>!Xg R s)=true:=by
  rw [hv,Bool.true_and,Bool.not_eq_true',List.any_eq_false]
  intro s hs
  obtain ⟨v,h,rfl⟩:=List.mem_map.1 hs
  have:=hF v h
  unfold Xg
  rw [gEg (show (0:Int)<=Int.ofNat v from Int.natCast_nonneg v),gEg (show Int.ofNat v<(R.length:Int) from Int.ofNat_lt.2 this)]
  simp
 rw [hst] at hgs
 simp only [Bf,B7,As] at hgs ⊢
 (refine Wt ?_;(repeat clear hK K);repeat refine kq fun K hK=>?_)
 (refine Wy hgs ?_;intro K1 hK1)
 rintro _ _ ⟨rfl,rfl⟩
 (refine Wz ?_;clear hK1 K1)
 (refine Wu @Bool.not_true ?_;(repeat clear hK K);repeat refine kq fun K hK=>?_)
 refine WC ?_
 (refine Wt ?_;(repeat clear hK K);repeat refine kq fun K hK=>?_)
 (refine Wy (Sa R hn) ?_;intro K1 hK1)
 rintro _ _ ⟨rfl,rfl⟩
 (simp only [As,Bl,Xc,BQ,List.append_nil,List.nil_append,List.length_map,go_sem];refine hK1 _ ?_;clear hK1 K1)
 (refine Wt ?_;(repeat clear hK K);repeat refine kq fun K hK=>?_)
 (refine Ai rfl ?_;intro K1 hK1;refine AH (ids:=[]) [1,2] (Np R t F hlo hn hr hF hFl (List.replicate R.length 0) 0 (by simp) (fun x h=>by have:=List.eq_of_mem_replicate h;omega) (by omega) (by omega)) rfl rfl (by simp only [go_sem]) (by first | assumption | kernel_rfl) rfl rfl (by (simp only [List.map_append,List.append_nil,go_sem]) <;> rfl) (by (simp only [VS,Xc,Af,go_sem]) <;> rfl) ?_ ?_)
 ·rintro _ _ ⟨_,_,_,_,_,rfl,rfl⟩;rfl
 rintro _ _ ⟨seen,hse,hsb,p,hp,rfl,rfl⟩
 (simp only [As,Bl,Xc,BQ,List.append_nil,List.nil_append,List.length_map,go_sem];refine hK1 _ ?_;clear hK1 K1)
 (refine Wt ?_;(repeat clear hK K);repeat refine kq fun K hK=>?_)
 refine WG [3] Tryz.results39 @Af ?_
 exact ⟨p,hp,rfl,rfl⟩
theorem Nx (R:List (List Ar)) (t:Bool) (F:List Nat) (hv:Bv R=true) (hn:R.length<=1000000) (hr:∀ r∈R,r.length<=1000000) (hF:∀ v∈F,v<R.length) (hFl:F.length<=1000000):
  FC Tryz.prog 39 [B7 R,As (F.map Int.ofNat),.b t] [] (fun r o=>∃ p:Nat->Bool,(∀ u,u<R.length->(p u=true↔∃ v∈F,Rc (WP t R) v u))/\o=[]/\r=.a (.c (.t 1 (Ab ((FJ R.length p).map Int.ofNat))))):=
 (LM R t F hv hn hr hF hFl).frzP (fun p=>EM _) (by omega) (fun p _=>by rw [A4,List.length_map,Nat.mul_one])
def Yq (R:List (List Ar)) (B:List Bool) (c:List Int) (s:Nat):Bool:=B.getD s false || (!Xd (R.getD s []) && c.getD ((R.getD s []).headD (0,0)).2.toNat 0 != c.getD s 0)
set_option maxHeartbeats 4000000 in
theorem QC (R:List (List Ar)) (hv:Bv R=true) (hn:R.length<=64) (hr:∀ r∈R,r.length<=1000000):FC Tryz.prog 15 [B7 R] [] (fun r o=>∃ B c,∃ p:Nat->Bool,DvL R B/\WkC R c/\Nrm R.length c/\(∀ u,u<R.length->(p u=true↔Rc (WP false R) 0 u))/\o=[]/\r=.b ((FJ R.length p).all fun s=>!Yq R B c s)):=by
 refine A6 Tryz.func15 rfl (by rw [Tryz.ntmps15];simp) ?_
 rw [Tryz.ntmps15]
 have hlo:BE R=true:=gEg (gE4 hv).1
 have h1:1<=R.length:=(gE4 hlo).1
 have hva:=CD R (by omega) (fun r h=>by have:=hr r h;omega)
 rw [hv] at hva
 have hdv:=Nn R hv (by omega) hr
 have hwc:=Ux R hv hn hr
 have hgr:=Nx R false [0] hv (by omega) hr (by simp;omega) (by simp)
 have e0:([0].map Int.ofNat)=[(0:Int)]:=rfl
 rw [e0] at hgr
 have hst:=fun k (h:k<R.length)=>Iw R k h (by omega) hr
 simp only [Bf,B7,As] at hva hdv hwc hgr hst ⊢
 (refine Wt ?_;(repeat clear hK K);repeat refine kq fun K hK=>?_)
 (refine Wy hva ?_;intro K1 hK1)
 rintro _ _ ⟨rfl,rfl⟩
 (refine Wz ?_;clear hK1 K1)
 (refine Wu @Bool.not_true ?_;(repeat clear hK K);repeat refine kq fun K hK=>?_)
 refine WC ?_
 (refine Wt ?_;(repeat clear hK K);repeat refine kq fun K hK=>?_)
 (refine Bz [] [(0,1,1),(2,1,3),(1,2,0),(3,2,0),(4,2,0),(5,2,0)] (by kernel_rfl) (by kernel_rfl) (by intro c st h;simp [Ae,AF,VT] at h) ?_)
 (refine Wr ?_;repeat clear hK K)
 (refine Wf rfl rfl ?_;intro K1 hK1;refine AZ ?_;refine xv [] (hdv) ?_ ?_)
 ·rintro _ _ ⟨_,_,rfl,rfl⟩ i o hi hl;simp at hl
 rintro _ _ ⟨B,hB,rfl,rfl⟩
 (refine Wz ?_;clear hK1 K1)
 (refine Wr ?_;repeat clear hK K)
 (refine Wf rfl rfl ?_;intro K1 hK1;refine AZ ?_;refine xv [] (hwc) ?_ ?_)
 ·rintro _ _ ⟨_,_,_,rfl,rfl⟩ i o hi hl;simp at hl
 rintro _ _ ⟨c,hc,hN,rfl,rfl⟩
 (refine Wz ?_;clear hK1 K1)
 (refine Wr ?_;repeat clear hK K)
 (refine Wg rfl rfl rfl ?_;intro K1 hK1;refine AP rfl ?_;simp only [go_sem];(first | refine hK1 _ ?_ | refine AD (hK1 _ ?_));clear hK1 K1)
 (refine Wg rfl rfl rfl ?_;intro K1 hK1;refine AP rfl ?_;simp only [go_sem];(first | refine hK1 _ ?_ | refine AD (hK1 _ ?_));clear hK1 K1)
 (refine Wr ?_;repeat clear hK K)
 (refine Wt ?_;(repeat clear hK K);repeat refine kq fun K hK=>?_)
 (refine BS (Bg (r:=⟨3,1,true,A7 [(0:Int)]⟩) 1 (Ab [(0:Int)]) rfl (EM _) (show 0<(1:Nat) by omega)) ?_;simp only [ST.frz,A0.frz,AV.frz,C.frz,Nat.le_refl,List.set_cons_zero,List.set_cons_succ,go_sem,show (Ab [(0:Int)]).take 1=Ab [(0:Int)] from rfl])
 (refine Wy hgr ?_;intro K1 hK1)
 rintro _ _ ⟨p,hp,rfl,rfl⟩
 obtain ⟨M,hM⟩:∃ M,FJ R.length p=M:=⟨_,rfl⟩
 have hend:∀ v,v=(M.all fun s=>!Yq R B c s)->∃ B c,∃ p:Nat->Bool,DvL R B/\WkC R c/\Nrm R.length c/\(∀ u,u<R.length->(p u=true↔Rc (WP false R) 0 u))/\([]:List Ob)=[]/\AV.b v=.b ((FJ R.length p).all fun s=>!Yq R B c s):=fun v h=>⟨B,c,p,hB,hc,hN,fun u hu=>by rw [hp u hu];simp,rfl,by rw [hM,h]⟩
 have hMl:∀ s∈M,s<R.length:=fun s h=>by rw [<- hM] at h;exact (DT.1 h).1
 have hMn:M.length<=R.length:=by
  rw [<- hM]
  unfold FJ
  exact Nat.le_trans (List.length_filter_le _ _) (by rw [List.length_range];exact Nat.le_refl _)
 rw [hM]
 (refine Wz ?_;clear hK1 K1)
 (refine Wu (an @A4 @List.length_map.{0,0}) ?_;(repeat clear hK K);repeat refine kq fun K hK=>?_)
 refine A8 (fun k:Nat=>{ tm:=[(1,.a (.c (.p 0 0))),(3,.a (.c (.t 1 (X6 B)))),(4,.a (.c (.t 1 (Ab c)))),(16,.a (.c (.t 1 (Ab (M.map Int.ofNat))))),(17,.i M.length),(18,.i k)],hp:=[.r ⟨25,1,false,[.t 1 (Ah R)]⟩],n:=51,pin:=0 }) (fun k=>k<=M.length/\∀ s∈M.take k,Yq R B c s=false) (fun k=>M.length - k) 0 ?_ ?_ ?_
 ·exact ⟨by omega,by simp⟩
 ·refine Le.trans (A9 [0] rfl rfl) ?_
  (try simp only [List.set_nil,List.take_nil,List.take_zero,List.map_append,go_sem])
  exact WE
 rintro k ⟨hk,hall⟩ K hK
 by_cases hlt:k<M.length
 rotate_left
 ·have d1:decide ((k:Int)<(M.length:Int))=false:=by simpa using hlt
  have hke:k=M.length:=by omega
  subst hke
  rw [List.take_length] at hall
  have hv1:(true:Bool)=(M.all fun s=>!Yq R B c s):=by
   refine (List.all_eq_true.2 fun s hs=>?_).symm
   rw [hall s hs];rfl
  (refine Wu @d1 ?_;(repeat clear hK K);repeat refine kq fun K hK=>?_)
  refine WC ?_
  (refine Wx ?_;repeat clear hK K)
  (refine Wt ?_;(repeat clear hK K);repeat refine kq fun K hK=>?_)
  refine WF [] Tryz.results15 ?_
  obtain ⟨B',c',p',a1,a2,a3,a4,_,a6⟩:=hend _ hv1
  exact ⟨B',c',p',a1,a2,a3,a4,a6⟩
 have d1:decide ((k:Int)<(M.length:Int))=true:=by simpa using hlt
 have hsl:=hMl _ (gE6 hlt)
 have gM:=Am (show (M.map Int.ofNat)[k]?=some ((M[k]:Nat):Int) from by rw [List.getElem?_map,gE1 hlt];rfl)
 have htk:=gE8 hlt
 have hks:=gE6 hlt
 generalize M[k]=s at *
 have gB:=F7 (show B[s]?=some (B.getD s false) from by rw [gE2,gE1 (by rw [hB.1];exact hsl)];rfl)
 have gR:=Ag (gE1 hsl)
 (refine Wu @d1 ?_;(repeat clear hK K);repeat refine kq fun K hK=>?_)
 refine WB ?_
 (refine Wu (an @gM (an @A4 @List.length_map.{0,0})) ?_;(repeat clear hK K);repeat refine kq fun K hK=>?_)
 (refine Bz [] [(0,0,0),(1,0,0),(2,0,0),(3,1,7),(4,0,0),(5,1,7),(6,0,0),(7,2,0),(8,0,0),(9,0,0),(10,0,0),(11,0,0),(12,1,27),(13,0,0),(14,0,0),(15,1,27),(16,0,0),(17,0,0),(18,1,27),(19,0,0),(20,1,27),(21,0,0),(22,0,0),(23,0,0),(24,1,27),(25,0,0),(26,0,0),(27,2,0)] (by kernel_rfl) (by kernel_rfl) (by intro c st h;simp [Ae,AF,VT] at h) ?_)
 have hsM:s∈M:=hks
 have hRs:R.getD s []=R[s]:=by rw [gE2,gE1 hsl];rfl
 have hno:Yq R B c s=true->(false:Bool)=(M.all fun s=>!Yq R B c s):=fun h=>by
  symm
  rw [List.all_eq_false]
  exact ⟨s,hsM,by rw [h];simp⟩
 have hgo:Yq R B c s=false->k+1<=M.length/\∀ x∈M.take (k+1),Yq R B c x=false:=fun h=>by
  refine ⟨by omega,fun x hx=>?_⟩
  rw [htk] at hx
  rcases List.mem_append.1 hx with h2 | h2
  ·exact hall x h2
  simp only [List.mem_singleton] at h2;rw [h2];exact h
 cases hb:B.getD s false with
 | true=>
  (refine Ws (an @gB (an @hb (an @BD @hB.1))) ?_;repeat clear hK K)
  (refine Wg rfl rfl rfl ?_;intro K1 hK1;refine AP rfl ?_;simp only [go_sem];(first | refine hK1 _ ?_ | refine AD (hK1 _ ?_));clear hK1 K1)
  (refine Wr ?_;repeat clear hK K)
  refine WB ?_
  (refine Wt ?_;(repeat clear hK K);repeat refine kq fun K hK=>?_)
  refine WF [] Tryz.results15 ?_
  obtain ⟨B',c',p',a1,a2,a3,a4,_,a6⟩:=hend _ (hno (by unfold Yq;rw [hb];rfl))
  exact ⟨B',c',p',a1,a2,a3,a4,a6⟩
 | false=>
  (refine Ws (an @gB (an @hb (an @BD @hB.1))) ?_;repeat clear hK K)
  (refine MD rfl rfl rfl (by simp only [go_sem] <;> rfl) ?_;intro K1 hK1;refine AZ ?_;refine xv [] (hst s hsl) ?_ ?_)
  ·rintro _ _ ⟨rfl,rfl⟩ i o hi hl;simp at hl
  rintro _ _ ⟨rfl,rfl⟩
  (refine Wz ?_;clear hK1 K1)
  cases hq:Xd R[s] with
  | true=>
   (refine Ws (an @Bool.not_true @Bool.false_eq_true) ?_;repeat clear hK K)
   (refine Wg rfl rfl rfl ?_;intro K1 hK1;refine AP rfl ?_;simp only [go_sem,Bool.not_true,Bool.false_eq_true];(first | refine hK1 _ ?_ | refine AD (hK1 _ ?_));clear hK1 K1)
   (refine Wr ?_;repeat clear hK K)
   refine WC ?_
   (refine Wt ?_;(repeat clear hK K);repeat refine kq fun K hK=>?_)
   refine WD ?_
   refine hK _ (k+1) (hgo (by unfold Yq;rw [hb,hRs,hq];rfl)) (by omega) ?_
   exact WE
  | false=>
   obtain ⟨a,q,hrow⟩:∃ a q,R[s]=a :: q:=by
    cases e:R[s] with
    | nil=>rw [e] at hq;simp [Xd] at hq
    | cons a q=>exact ⟨a,q,rfl⟩
   have hab:=EJ hv hsl (a:=a) (by rw [hRs,hrow];exact List.mem_cons_self)
   obtain ⟨e,t⟩:=a
   obtain ⟨u,rfl⟩:∃ u:Nat,t=(u:Int):=⟨t.toNat,by omega⟩
   have hul:u<R.length:=by omega
   have hcl:=hN.len
   have g1:=Am (show c[u]?=some (c.getD u 0) from by rw [gE2,gE1 (by omega)];rfl)
   have g2:=Am (show c[s]?=some (c.getD s 0) from by rw [gE2,gE1 (by omega)];rfl)
   rw [hrow] at gR
   have hval:Yq R B c s=(c.getD u 0 != c.getD s 0):=by
    unfold Yq
    rw [hb,hRs,hq,hrow]
    simp
   (refine Ws (an @gR (an @g1 (an @g2 (an @A4 (an @hcl (an @A3 (an @A2 (an @List.length_cons.{0} @Bool.not_false)))))))) ?_;repeat clear hK K)
   (refine Wg rfl rfl rfl ?_;intro K1 hK1;refine AP rfl ?_;simp only [go_sem];(first | refine hK1 _ ?_ | refine AD (hK1 _ ?_));clear hK1 K1)
   (refine Wr ?_;repeat clear hK K)
   (refine At ?_;intro X Y hX hY;simp only [go_sem])
   refine ⟨fun h=>hX ?_,fun h=>hY ?_⟩
   rotate_left
   ·clear hX hY X Y
    (refine Wt ?_;(repeat clear hK K);repeat refine kq fun K hK=>?_)
    refine WD ?_
    refine hK _ (k+1) (hgo (hval.trans h)) (by omega) ?_
    exact WE
   clear hX hY X Y
   (refine Wt ?_;(repeat clear hK K);repeat refine kq fun K hK=>?_)
   refine WF [] Tryz.results15 ?_
   obtain ⟨B',c',p',a1,a2,a3,a4,_,a6⟩:=hend _ (hno (hval.trans h))
   exact ⟨B',c',p',a1,a2,a3,a4,a6⟩
theorem Z3 (A:List (List Ar)) (s:Nat):(A.map Yj).getD s []=Yj (A.getD s []):=by
 rw [gE2,List.getElem?_map,gE2]
 cases A[s]? with
 | none=>rfl
 | some r=>rfl
theorem YP {A:List (List Ar)} (hA:Bv A=true):Bv (A.map Yj)=true:=by
 refine gEg ⟨gE4 (Om hA),fun r hr=>?_⟩
 obtain ⟨q,hq,rfl⟩:=List.mem_map.1 hr
 unfold Yj
 split
 ·exact (gE4 hA).2 q hq
 exact List.Pairwise.sublist (List.take_sublist _ _) ((gE4 hA).2 q hq)
theorem YQ {r:List Ar} (h:Xd r=false):∃ t q,r=((0:Int),t) :: q:=by
 cases r with
 | nil=>simp [Xd] at h
 | cons a q=>
  obtain ⟨e,t⟩:=a
  simp [Xd] at h
  subst h
  exact ⟨t,q,rfl⟩
section
variable {R : List (List Ar)} {α : Type} {f : Nat -> α} {P : Nat -> Prop}
theorem YR {s:Nat} (h:Xd (R.getD s [])=true):WP true R s=[]:=by
 unfold WP BR
 cases e:R.getD s [] with
 | nil=>rfl
 | cons a q=>
  rw [e] at h
  simp only [Xd] at h
  have h2:¬ ((a.1 == 0)=true):=by simpa using h
  rw [if_pos rfl,List.takeWhile_cons,if_neg h2]
  rfl
structure Inr (R:List (List Ar)) (f:Nat->α) (P:Nat->Prop):Prop where
 z:P 0
 lt:∀ s,P s->s<R.length
 nd:∀ s,P s->¬ Dv R s
 cl:∀ s,P s->∀ a∈R.getD s [],P a.2.toNat
 eq:∀ s,P s->∀ t q,R.getD s []=((0:Int),t) :: q->f t.toNat=f s
theorem Qk (hR:Bv R=true) (h:Inr R f P):∀ (n s:Nat),P s->XH R s<=n->∃ u,P u/\Rc (WP true (R.map Yj)) s u/\Xd (R.getD u [])=true/\f u=f s:=by
 intro n
 induction n with
 | zero=>
  intro s hs hr
  exfalso
  have hp:0<(List.range R.length).countP fun x=>@decide (Rc (WP true R) s x) (Classical.propDecidable _):=List.countP_pos_iff.2 ⟨s,List.mem_range.2 (h.lt s hs),@decide_eq_true _ (Classical.propDecidable _) (Rc.refl s)⟩
  unfold XH at hr
  omega
 | succ n ih=>
  intro s hs hr
  cases hb:Xd (R.getD s []) with
  | true=>exact ⟨s,hs,.refl _,hb,rfl⟩
  | false=>
   obtain ⟨t,q,hq⟩:=YQ hb
   have hsl:=h.lt s hs
   have hm:((0:Int),t)∈R.getD s []:=by rw [hq];exact List.mem_cons_self
   have hbd:=EJ hR hsl hm
   simp only at hbd
   have htn:((t.toNat:Nat):Int)=t:=Int.toNat_of_nonneg hbd.2.2.1
   have hE:t.toNat∈WP true R s:=(Gs hR).2 (by rw [htn];exact hm)
   have hEY:t.toNat∈WP true (R.map Yj) s:=(Gs (YP hR)).2 (by
    rw [htn,Z3,hq]
    unfold Yj
    rw [if_neg (by rw [hq] at hb;rw [hb];simp)]
    exact List.mem_cons_self)
   have hnb:¬ Rc (WP true R) t.toNat s:=fun hc=>h.nd s hs ⟨s,.refl _,_,hE,hc⟩
   have hlt:XH R t.toNat<XH R s:=IC (fun x _ hx=>@decide_eq_true _ (Classical.propDecidable _) ((Rc.one hE).trans (@of_decide_eq_true _ (Classical.propDecidable _) hx))) s (List.mem_range.2 hsl) (@decide_eq_true _ (Classical.propDecidable _) (Rc.refl s)) (@decide_eq_false _ (Classical.propDecidable _) hnb)
   obtain ⟨u,u1,u2,u3,u4⟩:=ih t.toNat (h.cl s hs _ hm) (by omega)
   exact ⟨u,u1,(Rc.one hEY).trans u2,u3,u4.trans (h.eq s hs t q hq)⟩
theorem YS {s:Nat} {a:Ar} (h:a∈(R.map Yj).getD s []):a∈R.getD s []:=by rw [Z3] at h;exact SQ h
theorem Z4 (hR:Bv R=true) {s u:Nat} (h:Rc (WP true (R.map Yj)) s u):Rc (WP true R) s u:=by
 induction h with
 | refl=>exact .refl _
 | tail _ hw ih=>exact ih.tail ((Gs hR).2 (YS ((Gs (YP hR)).1 hw)))
theorem Zw (hR:Bv R=true) {s u:Nat} {e:Int} (h:WA (R.map Yj) s e u):WA R s e u:=by
 rcases h with ⟨h0,hr⟩ | ⟨h0,p,hp,a,ha,h1,h2⟩
 ·exact .inl ⟨h0,Z4 hR hr⟩
 exact .inr ⟨h0,p,Z4 hR hp,a,YS ha,h1,Z4 hR h2⟩
theorem Zx (hR:Bv R=true) {s:Nat} (h:Dv (R.map Yj) s):Dv R s:=by
 obtain ⟨g,hg,w,hw,hwg⟩:=h
 exact ⟨g,Z4 hR hg,w,(Gs hR).2 (YS ((Gs (YP hR)).1 hw)),Z4 hR hwg⟩
theorem Inr.toY (h:Inr R f P) (hR:Bv R=true) (hk:MtW R f R f) {s t:Nat} (hs:s<R.length) (ht:P t) (e:f s=f t):AnW R f (R.map Yj) f s t:=by
 have htl:=h.lt t ht
 refine ⟨fun d=>absurd ((hk.an hR hR hs htl e).1 d) (h.nd t ht),fun x u hw=>?_⟩
 obtain ⟨t1,p1,r1,s1,e1⟩:=Qk hR h _ t ht (Nat.le_refl _)
 have a1:=YR s1
 obtain ⟨v,hv,e2⟩:=(hk.an hR hR hs (h.lt _ p1) (by rw [e1,e])).2 x u hw
 rcases hv with ⟨h0,hr⟩ | ⟨h0,q,hq,a,ha,h1,h2⟩
 ·rw [YJ a1 hr] at e2
  exact ⟨t1,.inl ⟨h0,r1⟩,e2⟩
 obtain rfl:=YJ a1 hq
 have pa:=h.cl _ p1 a ha
 obtain ⟨w,pw,rw1,sw,ew⟩:=Qk hR h _ a.2.toNat pa (Nat.le_refl _)
 obtain ⟨y,hy,e3⟩:=(hk.an hR hR (h.lt _ pa) (h.lt _ pw) ew.symm).2 0 v (.inl ⟨rfl,h2⟩)
 rcases hy with ⟨_,hr⟩ | ⟨q,_⟩
 rotate_left
 ·exact absurd rfl q
 rw [YJ (YR sw) hr] at e3
 refine ⟨w,.inr ⟨h0,_,r1,a,?_,h1,rw1⟩,e3.trans e2⟩
 rw [Z3]
 unfold Yj
 rw [if_pos s1]
 exact ha
theorem Inr.ofY (_h:Inr R f P) (hR:Bv R=true) (hk:MtW R f R f) {s t:Nat} (hs:s<R.length) (ht:t<R.length) (e:f s=f t):AnW (R.map Yj) f R f s t:=
 ⟨fun d=>(hk.an hR hR hs ht e).1 (Zx hR d),fun x u hw=>(hk.an hR hR hs ht e).2 x u (Zw hR hw)⟩
theorem Inr.law (h:Inr R f P) (hR:Bv R=true) (hn:R.length<=40) (ht:Bw R<=400) (hk:MtW R f R f):EqW R (BT (R.map Yj)).1=true:=by
 have hY:=YP hR
 have hl:=Om hR
 have vC:=B0 hl
 have cC:=Zz hl
 have t1:=B2 hl
 have t2:=Ol R
 have b1:=(OD (R:=R.map Yj) (B:=Bw (R.map Yj)) (gE4 hl).1 (fun r hr a ha=>by have:=(gE4 hl).2.2.2 r hr a ha;exact ⟨this.2.2.1,this.2.2.2⟩) (fun r hr=>Q6 r hr)).1
 rw [List.length_map] at b1
 have hP:∀ j,P (YO (R.map Yj) j):=Zu h.z fun s hs a ha=>h.cl s hs a (YS ha)
 refine Zv (kA:=f) (kR:=fun i=>f (YO (R.map Yj) i)) hR vC (by omega) (by omega) hk ?_ ?_ ?_ (by simp only [cC.o0])
 ·exact MtW.of hR vC fun s t hs ht e=>(h.toY hR hk hs (hP t) e).trans (cC.anup vC hY f ht)
 ·exact MtW.of vC hR fun s t hs ht e=>(cC.andn vC hY f hs).trans (h.ofY hR hk (h.lt _ (hP s)) ht e)
 exact MtW.of vC vC fun s t hs ht e=>((cC.andn vC hY f hs).trans (h.ofY hR hk (h.lt _ (hP s)) (h.lt _ (hP s)) rfl)).trans ((h.toY hR hk (h.lt _ (hP s)) (hP t) e).trans (cC.anup vC hY f ht))
end
theorem Z5 {R:List (List Ar)} {B:List Bool} {c:List Int} {p:Nat->Bool} (hv:Bv R=true) (hn:R.length<=40) (ht:Bw R<=400) (hB:DvL R B) (hc:WkC R c) (hp:∀ u,u<R.length->(p u=true↔Rc (WP false R) 0 u)) (hall:((FJ R.length p).all fun s=>!Yq R B c s)=true):EqW R (BT (R.map Yj)).1=true:=by
 have h1:1<=R.length:=(gE4 hv).1.1
 have hx:∀ s,s<R.length->Rc (WP false R) 0 s->Yq R B c s=false:=fun s hs hr=>by
  have:=List.all_eq_true.1 hall s (DT.2 ⟨hs,(hp s hs).2 hr⟩)
  simpa using this
 refine Inr.law (f:=fun s=>c.getD s 0) (P:=fun s=>s<R.length/\Rc (WP false R) 0 s) ⟨⟨by omega,.refl _⟩,fun s h=>h.1,fun s ⟨hs,hr⟩ hd=>?_,fun s ⟨hs,hr⟩ a ha=>?_,fun s ⟨hs,hr⟩ t q hq=>?_⟩ hv hn ht (WkC.key hv (by omega) hc)
 ·have:=hx s hs hr
  unfold Yq at this
  rw [(hB.2 s hs).2 hd] at this
  simp at this
 ·exact ⟨(EJ hv hs ha).2.2.2,hr.tail (List.mem_map.2 ⟨a,ha,rfl⟩)⟩
 have:=hx s hs hr
 unfold Yq at this
 rw [hq] at this
 simp [Xd] at this
 exact this.2
/-! Systems whose silent steps lead to copies. -/
structure Cpy (n:Nat) (V Y:List (List Ar)):Prop where
 n0:1<=n
 lV:V.length=n
 lY:Y.length=n+n
 ev:∀ r∈V,∀ a∈r,a.1 ≠ 0/\a.2.toNat<n
 lo:∀ s,s<n->Y.getD s []=V.getD s []\/Y.getD s []=((0:Int),((n+s:Nat):Int)) :: V.getD s []
 hi:∀ s,s<n->Y.getD (n+s) []=V.getD s []
section
variable {n : Nat} {V Y : List (List Ar)}
theorem Cpy.ev2 (h:Cpy n V Y) {s:Nat} (hs:s<n):∀ a∈V.getD s [],a.1 ≠ 0/\a.2.toNat<n:=by
 rw [gE2,gE1 (by rw [h.lV];exact hs),Option.getD_some]
 exact h.ev _ (gE6 _)
theorem Cpy.adj (h:Cpy n V Y) (hY:Bv Y=true) {s w:Nat} (hs:s<Y.length) (hw:w∈WP true Y s):s<n/\w=n+s:=by
 have hm:=(Gs hY).1 hw
 rw [h.lY] at hs
 rcases Nat.lt_or_ge s n with q | q
 rotate_left
 ·obtain ⟨s,rfl⟩:∃ x,s=n+x:=⟨s - n,by omega⟩
  rw [h.hi s (by omega)] at hm
  exact absurd rfl (h.ev2 (by omega) _ hm).1
 rcases h.lo s q with e | e
 ·rw [e] at hm
  exact absurd rfl (h.ev2 q _ hm).1
 rw [e] at hm
 rcases List.mem_cons.1 hm with e2 | e2
 ·exact ⟨q,Int.ofNat.inj (congrArg Prod.snd e2)⟩
 exact absurd rfl (h.ev2 q _ e2).1
theorem Cpy.rc (h:Cpy n V Y) (hY:Bv Y=true) {s u:Nat} (hs:s<Y.length) (hr:Rc (WP true Y) s u):u=s\/(s<n/\u=n+s):=by
 have hE:=Cw true (gEg (gE4 hY).1:BE Y=true)
 induction hr with
 | refl=>exact .inl rfl
 | @tail v w hv hw ih=>
  obtain ⟨a1,a2⟩:=h.adj hY (hv.lt hs hE) hw
  rcases ih with e | ⟨q,e⟩
  ·subst e;exact .inr ⟨a1,a2⟩
  omega
theorem Cpy.nd (h:Cpy n V Y) (hY:Bv Y=true) {s:Nat} (hs:s<Y.length):¬ Dv Y s:=by
 have hE:=Cw true (gEg (gE4 hY).1:BE Y=true)
 rintro ⟨g,hg,w,hw,hwg⟩
 have hgl:=hg.lt hs hE
 obtain ⟨a1,a2⟩:=h.adj hY hgl hw
 have:=h.n0
 rcases h.rc hY (hE _ hgl _ hw) hwg with e | ⟨e,_⟩ <;> omega
theorem Cpy.row (h:Cpy n V Y) {s:Nat} (hs:s<Y.length) {a:Ar}:(a∈V.getD (s % n) []->a∈Y.getD s [])/\(a∈Y.getD s []->a.1 ≠ 0->a∈V.getD (s % n) []):=by
 rw [h.lY] at hs
 rcases Nat.lt_or_ge s n with q | q
 rotate_left
 ·obtain ⟨s,rfl⟩:∃ x,s=n+x:=⟨s - n,by omega⟩
  rw [Nat.add_mod_left,Nat.mod_eq_of_lt (by omega),h.hi s (by omega)]
  exact ⟨id,fun x _=>x⟩
 rw [Nat.mod_eq_of_lt q]
 rcases h.lo s q with e | e
 ·rw [e];exact ⟨id,fun x _=>x⟩
 rw [e]
 refine ⟨fun x=>gEf _ x,fun x y=>?_⟩
 rcases List.mem_cons.1 x with e2 | e2
 ·exact absurd (congrArg Prod.fst e2) y
 exact e2
theorem Cpy.mt (h:Cpy n V Y) (hY:Bv Y=true):MtW Y (· % n) Y (· % n):=by
 have hE:=Cw true (gEg (gE4 hY).1:BE Y=true)
 refine MtW.of hY hY fun s t hs ht e=>⟨fun d=>absurd d (h.nd hY hs),fun x u hw=>?_⟩
 have hk:∀ {s u:Nat},s<Y.length->Rc (WP true Y) s u->u % n=s % n:=fun hs hr=>by
  rcases h.rc hY hs hr with q | ⟨_,q⟩
  ·rw [q]
  rw [q,Nat.add_mod_left]
 rcases hw with ⟨h0,hr⟩ | ⟨h0,p,hp,a,ha,h1,h2⟩
 ·exact ⟨t,.inl ⟨h0,.refl _⟩,by simp only;rw [hk hs hr,e]⟩
 have hpl:=hp.lt hs hE
 have ha2:=(h.row hpl).2 ha (by rw [h1];exact h0)
 rw [hk hs hp,e] at ha2
 exact ⟨a.2.toNat,.inr ⟨h0,t,.refl _,a,(h.row ht).1 ha2,h1,.refl _⟩,(hk (EJ hY hpl ha).2.2.2 h2).symm⟩
theorem Cpy.inx (h:Cpy n V Y) (hY:Bv Y=true) (hn:n<=40) {B:List Bool} {c:List Int} (hB:DvL Y B) (hc:WkC Y c) {s:Nat} (hs:s<Y.length):Yq Y B c s=false:=by
 have hb:B.getD s false=false:=by
  cases e:B.getD s false with
  | false=>rfl
  | true=>exact absurd ((hB.2 s hs).1 e) (h.nd hY hs)
 unfold Yq
 rw [hb,Bool.false_or]
 cases hq:Xd (Y.getD s []) with
 | true=>rfl
 | false=>
  obtain ⟨t,q,hr⟩:=YQ hq
  have hm:((0:Int),t)∈Y.getD s []:=by rw [hr];exact List.mem_cons_self
  have hbd:=EJ hY hs hm
  simp only at hbd
  obtain ⟨a1,a2⟩:=h.adj hY hs ((Gs hY).2 (show ((0:Int),((t.toNat:Nat):Int))∈_ by rw [Int.toNat_of_nonneg hbd.2.2.1];exact hm))
  have e:=(h.mt hY).le hY (by rw [h.lY];omega) hc hbd.2.2.2 hs (by rw [a2,Nat.add_mod_left])
  rw [hr]
  show (!false && c.getD t.toNat 0 != c.getD s 0)=false
  rw [e]
  simp
theorem Cpy.all (h:Cpy n V Y) (hY:Bv Y=true) (hn:n<=40) {B:List Bool} {c:List Int} {p:Nat->Bool} (hB:DvL Y B) (hc:WkC Y c):((FJ Y.length p).all fun s=>!Yq Y B c s)=true:=
 List.all_eq_true.2 fun s hs=>by rw [h.inx hY hn hB hc (DT.1 hs).1];rfl
end
def NoT (s:Nat) (R:List (List Ar)):Prop:=∀ j r,j<s->R[j]?=some r->∀ a∈r,a.1 ≠ 0
theorem NoT.set {s:Nat} {R:List (List Ar)} (h:NoT s R) {r:List Ar} (hr:∀ a∈r,a.1 ≠ 0):NoT (s+1) (R.set s r):=fun j q hj hq=>by
 by_cases e:s=j
 ·subst e
  rw [List.getElem?_set] at hq
  simp only [if_true] at hq
  split at hq
  ·cases hq;exact hr
  ·cases hq
 ·rw [gE5 e] at hq
  exact h j q (by omega) hq
theorem NoT.stay {s:Nat} {R:List (List Ar)} (h:NoT s R) {r:List Ar} (hg:R[s]?=some r) (hr:∀ a∈r,a.1 ≠ 0):NoT (s+1) R:=fun j q hj hq=>by
 by_cases e:s=j
 ·subst e;rw [hg] at hq;cases hq;exact hr
 ·exact h j q (by omega) hq
theorem YV {e t:Int} {q:List Ar} (hs:SortA ((e,t) :: q)) (h0:∀ a∈(e,t) :: q,0<=a.1) (he:e ≠ 0):∀ a∈(e,t) :: q,a.1 ≠ 0:=fun a ha=>by
 have h1:=h0 _ List.mem_cons_self
 simp only at h1
 rcases List.mem_cons.1 ha with rfl | ha
 ·exact he
 ·have:=(List.pairwise_cons.1 hs).1 a ha
  rw [C0] at this
  simp only at this
  omega
structure CpI (m:Nat) (V Y:List (List Ar)) (s:Nat):Prop where
 len:Y.length=m+s
 lo:∀ j,j<s->Y.getD j []=V.getD j []\/Y.getD j []=((0:Int),((m+j:Nat):Int)) :: V.getD j []
 mid:∀ j,s<=j->j<m->Y.getD j []=V.getD j []
 hi:∀ j,j<s->Y.getD (m+j) []=V.getD j []
theorem Z6 {Y:List (List Ar)} {r:List Ar} {j:Nat}:(Y++[r]).getD j []=if j<Y.length then Y.getD j [] else if j=Y.length then r else []:=by
 simp only [gE2]
 by_cases h:j<Y.length
 ·rw [if_pos h,gEa h]
 rw [if_neg h,gEb (by omega)]
 by_cases e:j=Y.length
 ·rw [if_pos e,e,Nat.sub_self];rfl
 rw [if_neg e,List.getElem?_eq_none (by simp;omega)];rfl
theorem CpI.app {m s:Nat} {V Y:List (List Ar)} (h:CpI m V Y s) (hs:s<m):CpI m V (Y++[V.getD s []]) (s+1):=by
 have hl:=h.len
 refine ⟨by simp [hl];omega,fun j hj=>?_,fun j h1 h2=>?_,fun j hj=>?_⟩
 ·rw [Z6,if_pos (by omega)]
  by_cases e:j=s
  ·rw [e];exact .inl (h.mid s (Nat.le_refl _) hs)
  exact h.lo j (by omega)
 ·rw [Z6,if_pos (by omega)]
  exact h.mid j (by omega) h2
 rw [Z6]
 by_cases e:j=s
 ·rw [e,if_neg (by omega),if_pos (by omega)]
 rw [if_pos (by omega)];exact h.hi j (by omega)
theorem CpI.ins {m s:Nat} {V Y:List (List Ar)} (h:CpI m V Y (s+1)) (hs:s<m) (hY:Y.getD s []=V.getD s []):CpI m V (Y.set s (((0:Int),((m+s:Nat):Int)) :: V.getD s [])) (s+1):=by
 have hl:=h.len
 have hg:∀ j,(Y.set s (((0:Int),((m+s:Nat):Int)) :: V.getD s [])).getD j []=if j=s then ((0:Int),((m+s:Nat):Int)) :: V.getD s [] else Y.getD j []:=fun j=>by
  simp only [gE2]
  by_cases e:s=j
  ·subst e;rw [if_pos rfl,gEc (by omega)];rfl
  rw [if_neg (Ne.symm e),gE5 e]
 refine ⟨by rw [List.length_set];exact hl,fun j hj=>?_,fun j h1 h2=>?_,fun j hj=>?_⟩
 rotate_left
 ·rw [hg,if_neg (by omega)];exact h.mid j h1 h2
 ·rw [hg,if_neg (by omega)];exact h.hi j hj
 rw [hg]
 by_cases e:j=s
 ·rw [if_pos e,e];exact .inr rfl
 rw [if_neg e];exact h.lo j hj
theorem Zn {x:Ar} {r:List Ar} (h:∀ a∈r,WK x a=true):D1 x r=x :: r:=by
 cases r with
 | nil=>rfl
 | cons a q=>
  have h1:=h a List.mem_cons_self
  have h2:¬ WK a x=true:=fun q=>by rw [C0] at h1 q;omega
  have h3:¬ a=x:=fun e=>by rw [e,Ef] at h1;cases h1
  show (if WK a x then a :: D1 x q else if a=x then a :: q else x :: a :: q)=_
  rw [if_neg h2,if_neg h3]
theorem CpI.fin {m:Nat} {V Y:List (List Ar)} (h:CpI m V Y m) (hV:OkSys 4 m V) (hN:NoT m V) (h1:1<=m) (h4:m<=4):Cpy m V Y/\Bv Y=true/\Bw Y<=100:=by
 have hl:=h.len
 have hVl:=hV.1
 have hVr:∀ j,j<m->OkRow 4 m (V.getD j [])/\∀ a∈V.getD j [],a.1 ≠ 0:=fun j hj=>by
  have hg:=gE1 (show j<V.length by omega)
  rw [gE2,hg,Option.getD_some]
  exact ⟨hV.2 _ (gE6 _),hN j _ hj hg⟩
 have hr:∀ r∈Y,SortA r/\r.length<=5/\∀ a∈r,0<=a.1/\a.1<=1025/\0<=a.2/\a.2<((m+m:Nat):Int):=fun r hr=>by
  obtain ⟨j,hj,e⟩:=List.getElem_of_mem hr
  have e2:Y.getD j []=r:=by rw [gE2,gE1 hj,Option.getD_some,e]
  have base:∀ i,i<m->SortA (V.getD i [])/\(V.getD i []).length<=5/\∀ a∈V.getD i [],0<=a.1/\a.1<=1025/\0<=a.2/\a.2<((m+m:Nat):Int):=fun i hi=>by
   obtain ⟨⟨q1,q2,q3⟩,_⟩:=hVr i hi
   exact ⟨q1,by omega,fun a ha=>by have:=q3 a ha;omega⟩
  rcases Nat.lt_or_ge j m with q | q
  rotate_left
  ·obtain ⟨i,rfl⟩:∃ i,j=m+i:=⟨j - m,by omega⟩
   rw [<- e2,h.hi i (by omega)]
   exact base i (by omega)
  rcases h.lo j q with e3 | e3
  ·rw [<- e2,e3];exact base j q
  rw [<- e2,e3]
  obtain ⟨b1,b2,b3⟩:=base j q
  obtain ⟨⟨_,q2,_⟩,q4⟩:=hVr j q
  refine ⟨List.pairwise_cons.2 ⟨fun a ha=>?_,b1⟩,by simp only [List.length_cons];omega,fun a ha=>?_⟩
  ·have:=b3 a ha
   have:=q4 a ha
   rw [C0]
   simp only
   omega
  rcases List.mem_cons.1 ha with rfl | ha
  ·simp only;omega
  exact b3 a ha
 have ht:=ID (fun r h=>(hr r h).2.1)
 have ht2:Bw Y<=100:=by
  have:Y.length*5<=8*5:=Nat.mul_le_mul (by omega) (Nat.le_refl _)
  omega
 refine ⟨⟨h1,hVl,hl,fun r hr a ha=>?_,fun s hs=>h.lo s hs,fun s hs=>h.hi s hs⟩,gEg ⟨⟨by omega,by show Y.length<=16384;omega,by show Bw Y<=262144;omega,fun r h a ha=>by rw [hl];exact (hr r h).2.2 a ha⟩,fun r h=>(hr r h).1⟩,ht2⟩
 obtain ⟨j,hj,e⟩:=List.getElem_of_mem hr
 obtain ⟨⟨_,_,q3⟩,q4⟩:=hVr j (by omega)
 have e2:V.getD j []=r:=by rw [gE2,gE1 hj,Option.getD_some,e]
 rw [e2] at q3 q4
 have:=q3 a ha
 exact ⟨q4 a ha,by omega⟩
set_option maxHeartbeats 8000000 in
theorem YH (T:List Int) (hT:TpOk T) (a0:Nat) (ha:a0<=500000):FC Tryz.prog 17 [.a (.c (.p 0 0))] [tape T a0] (fun r o=>∃ (a':Nat) (V Y:List (List Ar)),(o=[tape T a',Kv Y]/\r=B7 Y)/\a'<=a0+50/\V.length<=4/\Cpy V.length V Y/\Bv Y=true/\Bw Y<=100):=by
 refine A6 Tryz.func17 rfl (by rw [Tryz.ntmps17];simp) ?_
 rw [Tryz.ntmps17]
 simp only [Bf,tape,Kv,B7]
 (refine Wt ?_;(repeat clear hK K);repeat refine kq fun K hK=>?_)
 (refine Ai rfl ?_;intro K1 hK1;refine ct [0] (Z9 T hT a0 4 (by omega) (by omega) (by omega)) ?_ ?_)
 ·rintro _ _ ⟨_,_,⟨rfl,rfl⟩,_⟩;rfl
 rintro _ _ ⟨a1,R0,⟨rfl,rfl⟩,ha1,hl1,hl2,hok⟩
 (simp only [As,Bl,tape,C6,List.append_nil,List.nil_append,List.length_map,go_sem];refine hK1 _ ?_;clear hK1 K1)
 (refine Wt ?_;(repeat clear hK K);repeat refine kq fun K hK=>?_)
 refine Au (A9 [0,1,2,4] rfl rfl) ?_
 (try simp only [List.set_nil,List.take_nil,List.take_zero,List.map_append,go_sem])
 (try simp only [Bs])
 obtain ⟨m,hm⟩:∃ m,m=R0.length:=⟨_,rfl⟩
 rw [<- hm] at hl1 hl2 hok
 (try rw [<- hm])
 refine A8 (fun p:Nat × List (List Ar)=>{ tm:=[(0,.a (.c (.p 0 0))),(2,.a (.c (.p 1 0))),(3,.a (.c (.p 3 0))),(4,.i p.1)],hp:=[.r ⟨41,2,false,[.t 1 (Ab T),.v (.int .i64 a1)]⟩,.r ⟨25,1,false,[.v (.slice none 0 0)]⟩,.r ⟨42,1,true,AO p.2⟩,.r ⟨25,1,false,[.s 2 m]⟩],n:=88,pin:=1 })
  (fun p=>p.1<=m/\OkSys 4 m p.2/\NoT p.1 p.2) (fun p=>m - p.1) (0,R0) ?_ ?_ ?_
 ·exact ⟨by simp,hok,fun j r hj=>by omega⟩
 ·exact WE
 rintro ⟨s,R⟩ ⟨hs,hR,hNo⟩ K hK
 simp only at hs hR hNo ⊢
 have hRl:=hR.1
 by_cases hlt:s<m
 ·have hl0:decide ((s:Int)<(m:Int))=true:=by simp;omega
  have hl2':s<R.length:=by omega
  have hg2:=gE1 hl2'
  have hrow:=hR.2 _ (gE6 hl2')
  generalize R[s]=row at *
  (refine Wu @hl0 ?_;(repeat clear hK K);repeat refine kq fun K hK=>?_)
  refine WB ?_
  cases row with
  | nil=>
   have hg:decide (((0:Nat):Int) > 0)=false:=by decide
   (refine Wu (an @Ay (an @hRl (an (BM hg2) (an @A2 (an @Ak (an @List.length_nil.{0} @hg)))))) ?_;(repeat clear hK K);repeat refine kq fun K hK=>?_)
   refine WC ?_
   (refine Wt ?_;(repeat clear hK K);repeat refine kq fun K hK=>?_)
   refine WD ?_
   refine hK _ (s+1,R) ⟨by simp only;omega,hR,hNo.stay hg2 (by simp)⟩ (by simp only;omega) ?_
   exact WE
  | cons x q=>
   obtain ⟨e,t⟩:=x
   have hat:=AL (xs:=(e,t) :: q) (i:=0) (by simp)
   have hg:decide (((q.length+1:Nat):Int) > 0)=true:=gEg (by omega)
   by_cases he:e=0
   rotate_left
   ·have d2:(e == 0)=false:=by simpa using he
    (refine Wu (an @Ay (an @hRl (an (BM hg2) (an @A2 (an @Ak (an @List.length_cons.{0} (an @hg (an @hat @d2)))))))) ?_;(repeat clear hK K);repeat refine kq fun K hK=>?_)
    refine WC ?_
    (refine Wt ?_;(repeat clear hK K);repeat refine kq fun K hK=>?_)
    refine WD ?_
    refine hK _ (s+1,R) ⟨by simp only;omega,hR,hNo.stay hg2 (YV hrow.1 (fun a ha=>(hrow.2.2 a ha).1) he)⟩ (by simp only;omega) ?_
    exact WE
   have d2:(e == 0)=true:=by simpa using he
   (refine Wu (an @Ay (an @hRl (an (BM hg2) (an @A2 (an @Ak (an @List.length_cons.{0} (an @hg (an @hat @d2)))))))) ?_;(repeat clear hK K);repeat refine kq fun K hK=>?_)
   refine WB ?_
   have hdr:(Ao ((e,t) :: q)).drop ((q.length+1)*2)=Ao []:=List.drop_eq_nil_of_le (by rw [A2];simp)
   (refine Wt ?_;(repeat clear hK K);repeat refine kq fun K hK=>?_)
   (refine Ac 16 [(0,0),(1,1),(2,0),(3,0),(4,1),(5,0),(6,0),(7,1),(8,0),(9,1),(10,0),(11,0),(12,1),(13,0),(14,0),(15,0),(16,2)] (by kernel_rfl) (by kernel_rfl) (by intro c st h;simp [Ae,AF,VT] at h) ?_)
   (refine UQ (an @Ay (an @hRl (an (BM hg2) (an @A2 (an @Ak (an @List.length_cons.{0} (an @Int.toNat_natCast (an @hdr @LV)))))))) ?_;repeat clear hK K)
   (refine Wt ?_;(repeat clear hK K);repeat refine kq fun K hK=>?_)
   refine WD ?_
   refine hK _ (s+1,R.set s []) ⟨by simp only;omega,hR.set ⟨List.Pairwise.nil,by simp,by simp⟩ s,hNo.set (by simp)⟩ (by simp only;omega) ?_
   exact WE
 have hl0:decide ((s:Int)<(m:Int))=false:=by simp;omega
 have hse:s=m:=by omega
 rw [hse] at hNo
 (refine Wu @hl0 ?_;(repeat clear hK K);repeat refine kq fun K hK=>?_)
 refine WC ?_
 (refine Wx ?_;repeat clear hK K)
 (refine Wt ?_;(repeat clear hK K);repeat refine kq fun K hK=>?_)
 clear hl0 hse hs hlt
 refine A8 (fun p:Nat × Nat × List (List Ar)=>{ tm:=[(0,.a (.c (.p 0 0))),(2,.a (.c (.p 1 0))),(3,.a (.c (.p 3 0))),(5,.i m),(6,.i p.1)],hp:=[.r ⟨41,2,false,[.t 1 (Ab T),.v (.int .i64 p.2.1)]⟩,.r ⟨25,1,false,[.v (.slice none 0 0)]⟩,.r ⟨42,1,true,AO p.2.2⟩,.r ⟨25,1,false,[.s 2 (m+p.1)]⟩],n:=88,pin:=1 })
  (fun p=>p.1<=m/\p.2.1<=a1+p.1/\CpI m R p.2.2 p.1) (fun p=>m - p.1) (0,a1,R) ?_ ?_ ?_
 ·exact ⟨by simp,by simp,by simpa using hRl,fun j hj=>by omega,fun j _ _=>rfl,fun j hj=>by omega⟩
 ·exact WE
 rintro ⟨s,a,Y⟩ ⟨hs,haa,hC⟩ K hK
 simp only at hs haa hC ⊢
 have hYl:=hC.len
 by_cases hlt:s<m
 rotate_left
 ·have hl0:decide ((s:Int)<(m:Int))=false:=by simp;omega
  have hse:s=m:=by omega
  rw [hse] at hC hYl hl0
  rw [hse]
  obtain ⟨f1,f2,f3⟩:=hC.fin hR hNo (by omega) (by omega)
  (refine Wu @hl0 ?_;(repeat clear hK K);repeat refine kq fun K hK=>?_)
  refine WC ?_
  (refine Wx ?_;repeat clear hK K)
  refine Au (AR (r:=⟨42,1,true,AO Y⟩) (ri:=⟨25,1,false,[.s 2 (m+m)]⟩) (ts:=Ah Y) 3 0 2 (m+m) (by decide) rfl rfl rfl rfl (show 0<1 by omega) (by simp only [Ay,hYl];omega) (CZ Y)) ?_
  refine Au (Cm 3 rfl) ?_
  simp only [VX,List.map_cons,List.map_nil,go_sem]
  (refine Wt ?_;(repeat clear hK K);repeat refine kq fun K hK=>?_)
  refine WF [0,1] Tryz.results17 ?_
  exact ⟨a,R,Y,⟨rfl,rfl⟩,by omega,by omega,by rw [hRl];exact f1,f2,f3⟩
 have hl0:decide ((s:Int)<(m:Int))=true:=by simp;omega
 have hmid:=hC.mid s (Nat.le_refl _) hlt
 have hg2:=gE1 (show s<Y.length by omega)
 have hYs:Y[s]=R.getD s []:=by rw [<- hmid,gE2,hg2];rfl
 have hrow:=hR.2 _ (gE6 (show s<R.length by omega))
 have hRs:R.getD s []=R[s]'(by omega):=by rw [gE2,gE1 (show s<R.length by omega)];rfl
 have hnt:∀ a∈R.getD s [],a.1 ≠ 0:=by rw [hRs];exact hNo s _ hlt (gE1 (by omega))
 rw [<- hRs] at hrow
 have happ:=hC.app hlt
 have hins:=fun h=>happ.ins hlt h
 have hm2:=happ.mid
 have hins2:D1 ((0:Int),(m:Int)+(s:Int)) (R.getD s [])=((0:Int),((m+s:Nat):Int)) :: R.getD s []:=by
  have:=Zn (x:=((0:Int),(m:Int)+(s:Int))) (r:=R.getD s []) (fun a ha=>by
   have h1:=hrow.2.2 a ha
   have h2:=hnt a ha
   rw [C0]
   simp only
   omega)
  rw [this];rfl
 rw [hYs] at hg2
 have hY2:(Y++[R.getD s []])[s]?=some (R.getD s []):=by rw [gEa (by omega)];exact hg2
 have hY3:(Y++[R.getD s []]).getD s []=R.getD s []:=by rw [gE2,hY2];rfl
 have hins:=hins hY3
 generalize hrw:R.getD s []=row at *
 clear hYs hRs
 have hkl:(AO Y).length=m+s:=by rw [Ay];exact hYl
 have hro:row.length<=4:=hrow.2.1
 (refine Wu @hl0 ?_;(repeat clear hK K);repeat refine kq fun K hK=>?_)
 refine WB ?_
 (refine Wt ?_;(repeat clear hK K);repeat refine kq fun K hK=>?_)
 (refine AJ [] (.m 0 0 0 (.m 3 0 0 (.m 5 0 0 (.m 1 1 10 (.m 4 1 8 (.m 6 0 0 (.m 7 1 8 (.a 2 (.a 8 (.a 9 (.a 10 (.m 11 0 0 (.a 12 .e))))))))))))) (by kernel_rfl) (by kernel_rfl) (by intro c st h;simp [Ae,AF,VT] at h) ?_)
 (refine Ww (an @Ay (an @hYl (BM hg2))) ?_;repeat clear hK K)
 (refine Wj rfl rfl ?_;intro K1 hK1;refine Bx rfl ?_;simp only [go_sem];(first | refine hK1 _ ?_ | refine AD (hK1 _ ?_));clear hK1 K1)
 (refine Wj rfl rfl ?_;intro K1 hK1;refine RF rfl rfl rfl rfl ?_;simp only [go_sem,Cp,A2,Ak,List.take_zero,List.nil_append];(first | refine hK1 _ ?_ | refine AD (hK1 _ ?_));clear hK1 K1)
 (refine Wj rfl rfl ?_;intro K1 hK1;refine Bx rfl ?_;simp only [go_sem];(first | refine hK1 _ ?_ | refine AD (hK1 _ ?_));clear hK1 K1)
 (refine Wk rfl rfl rfl rfl ?_;intro K1 hK1;refine AP rfl ?_;simp only [go_sem,hkl,Nat.mul_one,gE7 (Nat.le_of_eq hkl),C.one,List.take_succ_cons,List.take_zero,List.all_cons,List.all_nil,Bool.and_true];(first | refine hK1 _ ?_ | refine AD (hK1 _ ?_));clear hK1 K1)
 (refine Wv ?_;repeat clear hK K)
 (refine Wk rfl rfl rfl rfl ?_;intro K1 hK1;refine AP rfl ?_;simp only [go_sem,ST.put,DJ,A0.cells];(first | refine hK1 _ ?_ | refine AD (hK1 _ ?_));clear hK1 K1)
 (refine Wv ?_;repeat clear hK K)
 have hj:(AO Y++[C.s 5 row.length])[m+s]?=some (.s 5 row.length):=by rw [gEb (by omega),hkl,Nat.sub_self];rfl
 have hset:(AO Y++[C.s 5 row.length]).set (m+s) (.o (2,46) (Ao row))=AO Y++[.o (2,46) (Ao row)]:=by
  rw [List.set_append_right _ _ (by omega),hkl,Nat.sub_self];rfl
 have hot:(AO Y++[C.o (2,46) (Ao row)]).map VX=AO (Y++[row]):=by simp [AO,VX,Function.comp_def]
 refine Au (AR (r:=⟨46,2,true,Ax row⟩) (ri:=⟨42,1,true,AO Y++[.s 5 row.length]⟩) (ts:=Ao row) 7 (m+s) 5 row.length (by decide) rfl hj rfl rfl (show 0<2 by omega) (Ap _).symm (Dl _)) ?_
 simp only [hset,go_sem]
 refine Au (Cm 7 rfl) ?_
 simp only [hot,go_sem]
 refine Au (A9 [0,1,7,3] rfl rfl) ?_
 (try simp only [List.set_nil,List.take_nil,List.take_zero,List.map_append,go_sem])
 (try simp only [Bs])
 (refine Wt ?_;(repeat clear hK K);repeat refine kq fun K hK=>?_)
 (refine Ai rfl ?_;intro K1 hK1;refine ct [0] (Dk T a 2 hT (by omega) (by omega)) ?_ ?_)
 ·rintro _ _ ⟨rfl,v,rfl,_⟩;rfl
 rintro _ _ ⟨rfl,v,rfl,_⟩
 (simp only [As,Bl,tape,C6,List.append_nil,List.nil_append,List.length_map,go_sem];refine hK1 _ ?_;clear hK1 K1)
 (refine Wt ?_;(repeat clear hK K);repeat refine kq fun K hK=>?_)
 (refine At ?_;intro X Y hX hY;simp only [go_sem])
 refine ⟨fun h=>hX ?_,fun h=>hY ?_⟩
 rotate_left
 ·clear hX hY X Y
  (refine Wt ?_;(repeat clear hK K);repeat refine kq fun K hK=>?_)
  refine WD ?_
  refine hK _ (s+1,a+1,Y++[row]) ⟨by simp only;omega,by simp only;omega,happ⟩ (by simp only;omega) ?_
  exact WE
 clear hX hY X Y
 have hgY:=BM hY2
 have hlY:(Y++[row]).length=m+(s+1):=by rw [List.length_append,hYl];rfl
 (refine Wt ?_;(repeat clear hK K);repeat refine kq fun K hK=>?_)
 (refine Bz [] [(0,0,0),(2,0,0),(3,0,0),(5,0,0),(8,0,0),(9,0,0),(10,0,0),(11,0,0),(1,1,14),(4,1,12),(6,0,0),(7,1,12),(12,2,0),(13,0,0),(14,2,0)] (by kernel_rfl) (by kernel_rfl) (by intro c st h;simp [Ae,AF,VT] at h) ?_)
 (refine Ws (an @Ay (an @hlY @hgY)) ?_;repeat clear hK K)
 (refine Wf rfl rfl ?_;intro K1 hK1;refine AZ ?_;refine BW (ids:=[]) [] (EX row (0,(m:Int)+(s:Int)) (by omega)) rfl rfl (by simp only [go_sem]) (by kernel_rfl) rfl rfl rfl (by (simp only [List.map_append,List.append_nil,go_sem]) <;> rfl) (by (simp only [VS,BK,go_sem]) <;> rfl) ?_ ?_)
 ·rintro _ _ ⟨rfl,rfl⟩ i o hi hl;simp at hl
 rintro _ _ ⟨rfl,rfl⟩
 (simp only [As,Bl,BK,C6,List.append_nil,List.nil_append,List.length_map,go_sem];refine hK1 _ ?_;clear hK1 K1)
 (refine Ws (an @Ay @hlY) ?_;repeat clear hK K)
 (refine Wg rfl rfl rfl ?_;intro K1 hK1;refine AP rfl ?_;simp only [go_sem,Ay,hlY,ST.put,DJ,A0.cells,EA,hins2];(first | refine hK1 _ ?_ | refine AD (hK1 _ ?_));clear hK1 K1)
 (refine Wr ?_;repeat clear hK K)
 (refine Wt ?_;(repeat clear hK K);repeat refine kq fun K hK=>?_)
 refine WD ?_
 refine hK _ (s+1,a+1,(Y++[row]).set s (((0:Int),((m+s:Nat):Int)) :: row)) ⟨by simp only;omega,by simp only;omega,hins⟩ (by simp only;omega) ?_
 exact WE
open Go.RowKit Go.Shelf Go.Sort
attribute [local go_sem] List.map_cons List.map_nil List.take_succ_cons List.take_zero List.drop_zero List.drop_succ_cons C.pl C.one List.all_cons List.all_nil Bool.and_true
theorem QH (R:List (List Ar)) (hv:Bv R=false) (hn:R.length<=140737488355328) (hr:∀ r∈R,r.length<=140737488355328):FC Tryz.prog 15 [B7 R] [] (fun r o=>o=[]/\r=.b false):=by
 refine A6 Tryz.func15 rfl (by rw [Tryz.ntmps15];simp) ?_
 rw [Tryz.ntmps15]
 simp only [Bf,B7]
 (refine Wt ?_;(repeat clear hK K);repeat refine kq fun K hK=>?_)
 (refine Wy (CD R hn hr) ?_;intro K1 hK1)
 rintro _ _ ⟨rfl,rfl⟩
 (refine Wz ?_;clear hK1 K1)
 (refine Wu (an @hv @Bool.not_false) ?_;(repeat clear hK K);repeat refine kq fun K hK=>?_)
 refine WB ?_
 (refine Wt ?_;(repeat clear hK K);repeat refine kq fun K hK=>?_)
 exact Lq [] Tryz.results15
def Yu:List (List Ar):=[[(2,1),(3,2)],[],[]]
def Yv:List (List Ar):=[[(0,1),(2,2),(3,2)],[],[]]
def Yw:List (List Ar):=[[(3,1)],[]]
def Yx:List (List Ar):=[[(0,1),(3,2)],[],[]]
theorem V5:(BT (Yu.map (Ys [(2,3)]))).1=Yw:=by kernel_rfl
theorem V6:(BT (Yv.map (Ys [(2,3)]))).1=Yx:=by kernel_rfl
theorem V7:Bv Yu=true:=by kernel_rfl
theorem V8:Bv Yv=true:=by kernel_rfl
theorem Vj:M8 [(2,3)]=true:=by kernel_rfl
theorem Vk:SortA [(2,3)]:=by simp [SortA]
set_option maxHeartbeats 2000000 in
theorem OO:FC Tryz.prog 13 [] [] (fun r _=>r=.b true):=by
 refine A6 Tryz.func13 rfl (by rw [Tryz.ntmps13];simp) ?_
 rw [Tryz.ntmps13]
 simp only [Bf]
 have hpA:=ON Yu [(2,3)] V7 (by decide) (by decide) (by decide) Vj Vk (by decide) (by decide)
 have hpB:=ON Yv [(2,3)] V8 (by decide) (by decide) (by decide) Vj Vk (by decide) (by decide)
 rw [V5] at hpA
 rw [V6] at hpB
 have hsC:=JC Yw (by decide) (by decide)
 have hsD:=JC Yx (by decide) (by decide)
 simp only [B7,BK] at hpA hpB hsC hsD
 (refine Jb ?_;(repeat clear hK K);repeat refine kq fun K hK=>?_)
 refine BS (AR (r:=⟨46,2,true,Ax [(2,1),(3,2)]⟩) (ts:=Ao [(2,1),(3,2)]) 2 0 1 2 (by decide) rfl rfl rfl rfl (show 0<2 by omega) rfl (Dl _)) ?_
 simp only [go_sem]
 refine BS (Nk 2 [2,2,2] rfl) ?_
 simp only [X5,VX,go_sem]
 (refine BS (Bg (r:=⟨42,1,true,AO Yu⟩) 2 (Ah Yu) rfl (CZ _) (show 0<(1:Nat) by omega)) ?_;simp only [ST.frz,A0.frz,AV.frz,C.frz,Nat.le_refl,List.set_cons_zero,List.set_cons_succ,go_sem,show (Ah Yu).take 3=Ah Yu from rfl,show (if 3<=(Ah Yu).length then C.t 1 (Ah Yu) else C.u)=C.t 1 (Ah Yu) from rfl])
 (refine BS (Bg (r:=⟨49,2,true,Ax [(2,3)]⟩) 0 (Ao [(2,3)]) rfl (Dl _) (show 0<(2:Nat) by omega)) ?_;simp only [ST.frz,A0.frz,AV.frz,C.frz,Nat.le_refl,List.set_cons_zero,List.set_cons_succ,go_sem,show (Ao [(2,3)]).take (1*2)=Ao [(2,3)] from rfl,show (Ao [(2,3)]).take 2=Ao [(2,3)] from rfl,show (if 1*2<=(Ao [(2,3)]).length then C.t 2 (Ao [(2,3)]) else C.u)=C.t 2 (Ao [(2,3)]) from rfl,show (if 2<=(Ao [(2,3)]).length then C.t 2 (Ao [(2,3)]) else C.u)=C.t 2 (Ao [(2,3)]) from rfl])
 (refine Wy hpA ?_;intro K1 hK1)
 rintro _ _ ⟨rfl,rfl⟩
 (refine Wz ?_;clear hK1 K1)
 (refine Jb ?_;(repeat clear hK K);repeat refine kq fun K hK=>?_)
 refine BS (AR (r:=⟨46,2,true,Ax [(0,1),(2,2),(3,2)]⟩) (ts:=Ao [(0,1),(2,2),(3,2)]) 6 0 5 3 (by decide) rfl rfl rfl rfl (show 0<2 by omega) rfl (Dl _)) ?_
 simp only [go_sem]
 refine BS (Nk 6 [2,2,2] rfl) ?_
 simp only [X5,VX,go_sem]
 (refine BS (Bg (r:=⟨42,1,true,AO Yv⟩) 6 (Ah Yv) rfl (CZ _) (show 0<(1:Nat) by omega)) ?_;simp only [ST.frz,A0.frz,AV.frz,C.frz,Nat.le_refl,List.set_cons_zero,List.set_cons_succ,go_sem,show (Ah Yv).take 3=Ah Yv from rfl,show (if 3<=(Ah Yv).length then C.t 1 (Ah Yv) else C.u)=C.t 1 (Ah Yv) from rfl])
 (refine Wy hpB ?_;intro K1 hK1)
 rintro _ _ ⟨rfl,rfl⟩
 (refine Wz ?_;clear hK1 K1)
 (refine Jb ?_;(repeat clear hK K);repeat refine kq fun K hK=>?_)
 refine BS (AR (r:=⟨46,2,true,Ax [(3,1)]⟩) (ts:=Ao [(3,1)]) 10 0 9 1 (by decide) rfl rfl rfl rfl (show 0<2 by omega) rfl (Dl _)) ?_
 simp only [go_sem]
 refine BS (Nk 10 [2,2] rfl) ?_
 simp only [X5,VX,go_sem]
 (refine BS (Bg (r:=⟨42,1,true,AO Yw⟩) 10 (Ah Yw) rfl (CZ _) (show 0<(1:Nat) by omega)) ?_;simp only [ST.frz,A0.frz,AV.frz,C.frz,Nat.le_refl,List.set_cons_zero,List.set_cons_succ,go_sem,show (Ah Yw).take 2=Ah Yw from rfl,show (if 2<=(Ah Yw).length then C.t 1 (Ah Yw) else C.u)=C.t 1 (Ah Yw) from rfl])
 (refine BV rfl rfl (by simp only [go_sem] <;> rfl) ?_;intro K1 hK1;refine (Bb (ids:=[]) (hsC) rfl rfl (by simp only [go_sem]) (by kernel_rfl) (by (simp only [List.append_nil,go_sem]) <;> rfl) ?_).stp)
 rintro _ _ ⟨rfl,rfl⟩
 (refine Wz ?_;clear hK1 K1)
 (refine Jb ?_;(repeat clear hK K);repeat refine kq fun K hK=>?_)
 refine BS (AR (r:=⟨46,2,true,Ax [(0,1),(3,2)]⟩) (ts:=Ao [(0,1),(3,2)]) 12 0 11 2 (by decide) rfl rfl rfl rfl (show 0<2 by omega) rfl (Dl _)) ?_
 simp only [go_sem]
 refine BS (Nk 12 [2,2,2] rfl) ?_
 simp only [X5,VX,go_sem]
 (refine BS (Bg (r:=⟨42,1,true,AO Yx⟩) 12 (Ah Yx) rfl (CZ _) (show 0<(1:Nat) by omega)) ?_;simp only [ST.frz,A0.frz,AV.frz,C.frz,Nat.le_refl,List.set_cons_zero,List.set_cons_succ,go_sem,show (Ah Yx).take 3=Ah Yx from rfl,show (if 3<=(Ah Yx).length then C.t 1 (Ah Yx) else C.u)=C.t 1 (Ah Yx) from rfl])
 (refine BV rfl rfl (by simp only [go_sem] <;> rfl) ?_;intro K1 hK1;refine (Bb (ids:=[]) (hsD) rfl rfl (by simp only [go_sem]) (by kernel_rfl) (by (simp only [List.append_nil,go_sem]) <;> rfl) ?_).stp)
 rintro _ _ ⟨rfl,rfl⟩
 (refine Wz ?_;clear hK1 K1)
 (refine Wt ?_;(repeat clear hK K);repeat refine kq fun K hK=>?_)
 exact M6 Tryz.results13
end Go.Proofs.YtjijjfkalheokaaGreatDoor
