/- Lemmas. -/
import Derived.Test.YtjijjfkalheokaaGreatDoorG45
import Derived.Test.YtjijjfkalheokaaGreatDoorG11
import Derived.Test.YtjijjfkalheokaaGreatDoorZk
import Derived.Test.YtjijjfkalheokaaGreatDoorG70
import Derived.Test.YtjijjfkalheokaaGreatDoorMG
import Derived.Test.YtjijjfkalheokaaGreatDoorShlfD
import Derived.Test.YtjijjfkalheokaaGreatDoorDl1
import Derived.Test.YtjijjfkalheokaaGreatDoorG77
import Derived.Test.YtjijjfkalheokaaGreatDoorMD
import Derived.Test.YtjijjfkalheokaaGreatDoorG53
import Derived.Test.YtjijjfkalheokaaGreatDoorW04
import Derived.Test.YtjijjfkalheokaaGreatDoorMno
import Derived.Test.YtjijjfkalheokaaGreatDoorG42
namespace Go.Proofs.YtjijjfkalheokaaGreatDoor
set_option linter.unusedVariables false
set_option linter.unusedSimpArgs false
open Go.RowKit

def NumSur (num old:List Int):Prop:=∀ (j:Nat) (s:Int),old[j]?=some s->0<=s/\num[s.toNat]?=some (j:Int)
theorem NumSur.one {num old:List Int} (h:NumSur num old) {t:Int} (h0:0<=t) (h1:t<num.length):NumSur (AX num old t).1 (AX num old t).2:=by
 have htl:t.toNat<num.length:=by omega
 unfold AX
 split
 rotate_left
 ·exact h
 rename_i hneg
 intro j s hs
 simp only at hs ⊢
 rcases Nat.lt_or_ge j old.length with hj | hj
 ·rw [gEa hj] at hs
  obtain ⟨q1,q2⟩:=h j s hs
  refine ⟨q1,?_⟩
  rw [List.getElem?_set,if_neg,q2]
  intro e
  rw [e,gE2,q2,Option.getD_some] at hneg
  omega
 rw [gEb hj] at hs
 have hj':j=old.length:=by
  have:=(List.getElem?_eq_some_iff.1 hs).1
  simp at this
  omega
 subst hj'
 simp at hs
 subst hs
 exact ⟨h0,by rw [List.getElem?_set,if_pos rfl,if_pos htl]⟩
structure RowsG (n:Nat) (out:List (List Ar)):Prop where
 so:∀ r∈out,SortA r
 bd:∀ r∈out,∀ a∈r,0<=a.1/\a.1<=1025/\0<=a.2/\a.2<(n:Int)
set_option maxRecDepth 100000
attribute [local go_sem] lga C.pl C.one
set_option maxRecDepth 100000 in
theorem Og (ts:List Tr) (hn:ts.length<=100000000):FC Tryz.prog 35 [.a (.c (.t 1 ts))] [] (fun r o=>r=.a (.c (.s 0 (ts.length / 1)))/\o=[.r ⟨42,1,true,ts.map C.ofTr⟩]):=by
 refine A6 Tryz.func35 rfl (by rw [Tryz.ntmps35];simp) ?_
 rw [Tryz.ntmps35]
 simp only [Bf]
 (refine Wt ?_;(repeat clear hK K);repeat refine kq fun K hK=>?_)
 refine Ai rfl ?_;intro K1 hK1
 refine J4 rfl rfl Tryz.underlying23 (.inl rfl) (.inl ⟨1,ts,by simp only [go_sem],?_⟩)
 intro b hb
 simp only [go_sem]
 refine hK1 _ ?_;clear hK1 K1
 (refine Wt ?_;(repeat clear hK K);repeat refine kq fun K hK=>?_)
 (refine At ?_;intro X Y hX hY;simp only [go_sem])
 refine ⟨fun h=>hX ?_,fun h=>hY ?_⟩
 ·have hts:=hb h
  subst hts
  (refine Wt ?_;(repeat clear hK K);repeat refine kq fun K hK=>?_)
  refine Av ?_
  simp only [Ae]
  refine B6 (CT 2 42 1 ?_) ?_
  ·simp only [go_sem]
  exact M6 Tryz.results35
 clear hX hY X Y
 (refine Wt ?_;(repeat clear hK K);repeat refine kq fun K hK=>?_)
 refine Av ?_
 refine B6 (A9 [1] rfl rfl) ?_
 (try simp only [List.set_nil,List.take_nil,List.take_zero,List.map_append,go_sem])
 exact M6 Tryz.results35
theorem Oh (R:List (List Ar)):(Ah R).map C.ofTr=AO R:=by
 unfold Ah AO
 rw [List.map_map]
 rfl
def Yj (r:List Ar):List Ar:=if Xd r then r else r.take 1
def Yk (R:List (List Ar)) (k:Nat):List (List Ar):=(R.take k).map Yj++R.drop k
theorem Oi (R:List (List Ar)) (k:Nat):(Yk R k).length=R.length:=by simp [Yk];omega
theorem Oj {R:List (List Ar)} {k:Nat} (h:k<R.length):(Yk R k)[k]?=some R[k]:=by
 unfold Yk
 rw [gEb (by simp;omega),List.getElem?_drop,List.length_map,List.length_take,Nat.min_eq_left (by omega)]
 rw [show k+(k - k)=k by omega,gE1 h]
theorem Qw {R:List (List Ar)} {k:Nat} (h:k<R.length):Yk R (k+1)=(Yk R k).set k (Yj R[k]):=by
 unfold Yk
 rw [List.set_append_right _ _ (by simp;omega),gE8 h,List.map_append,List.append_assoc]
 congr 1
 rw [List.length_map,List.length_take,Nat.min_eq_left (by omega),Nat.sub_self]
 rw [List.drop_eq_getElem_cons h]
 rfl
theorem SP (R:List (List Ar)):Yk R R.length=R.map Yj:=by simp [Yk]
theorem HH (r:List Ar):(Yj r).length<=r.length:=by
 unfold Yj
 split
 ·exact Nat.le_refl _
 rw [List.length_take];omega
theorem SQ {r:List Ar} {a:Ar} (h:a∈Yj r):a∈r:=by
 unfold Yj at h
 split at h
 ·exact h
 exact List.mem_of_mem_take h
theorem Ol:∀ R:List (List Ar),Bw (R.map Yj)<=Bw R
 | []=>Nat.le_refl _
 | r :: R=>by
  have h1:=Ol R
  have h2:=HH r
  simp only [Bw,List.map_cons,List.sum_cons] at h1 ⊢
  omega
theorem LV (X:List (List Ar)) (k:Nat) (r:List Ar):(AO X).set k (.t 2 (Ao r))=AO (X.set k r):=by
 unfold AO
 rw [<- List.map_set]
theorem LW {X:List (List Ar)} {k:Nat} {r:List Ar} (h:X[k]?=some r):(AO X)[k]?=some (.t 2 (Ao r)):=by
 unfold AO
 rw [List.getElem?_map,h];rfl
theorem Om {R:List (List Ar)} (hv:Bv R=true):BE (R.map Yj)=true:=by
 have h:=(gE4 hv).1
 have ht:=Ol R
 refine gEg ⟨by rw [List.length_map];exact h.1,by rw [List.length_map];exact h.2.1,by have:=h.2.2.1;omega,?_⟩
 intro r hr a ha
 obtain ⟨q,hq,rfl⟩:=List.mem_map.1 hr
 rw [List.length_map]
 exact h.2.2.2 q hq a (SQ ha)
set_option maxHeartbeats 4000000 in
theorem Qx (R:List (List Ar)) (hv:Bv R=true) (hn:R.length<=1000000) (hr:∀ r∈R,r.length<=1000000):FC Tryz.prog 14 [B7 R] [] (fun r o=>o=[.r ⟨25,1,false,[.t 1 (Ah (BT (R.map Yj)).1)]⟩]/\r=.tup [.g [.t 1 (Ah (BT (R.map Yj)).1)],.c (.v (.int .i64 0))]):=by
 refine A6 Tryz.func14 rfl (by rw [Tryz.ntmps14];simp) ?_
 rw [Tryz.ntmps14]
 have hlo:BE R=true:=gEg (gE4 hv).1
 have h1:1<=R.length:=(gE4 hlo).1
 simp only [Bf,B7]
 (refine Wt ?_;(repeat clear hK K);repeat refine kq fun K hK=>?_)
 (refine Wy (CD R (by omega) (fun r h=>by have:=hr r h;omega)) ?_;intro K1 hK1)
 rintro _ _ ⟨rfl,rfl⟩
 (refine Wz ?_;clear hK1 K1)
 rw [hv]
 (refine Wu @Bool.not_true ?_;(repeat clear hK K);repeat refine kq fun K hK=>?_)
 refine WC ?_
 (refine Wt ?_;(repeat clear hK K);repeat refine kq fun K hK=>?_)
 (refine Wy (Og (Ah R) (by rw [A3];omega)) ?_;intro K1 hK1)
 rintro _ _ ⟨rfl,rfl⟩
 (refine Wz ?_;clear hK1 K1)
 rw [Oh,A3]
 have hst:=fun k (h:k<R.length)=>Iw R k h hn hr
 simp only [B7] at hst
 (refine Wt ?_;(repeat clear hK K);repeat refine kq fun K hK=>?_)
 refine A8 (fun k:Nat=>{ tm:=[(1,.a (.c (.p 0 0))),(2,.a (.c (.p 1 0))),(3,.a (.c (.v (.int .i64 0)))),(4,.a (.c (.s 2 R.length))),(17,.i R.length),(18,.i k)],hp:=[.r ⟨25,1,false,[.t 1 (Ah R)]⟩,.r ⟨25,1,false,[.v (.slice none 0 0)]⟩,.r ⟨42,1,true,AO (Yk R k)⟩],n:=43,pin:=0 }) (fun k=>k<=R.length) (fun k=>R.length - k) 0 ?_ ?_ ?_
 ·omega
 ·have h0:Yk R 0=R:=by simp [Yk]
  rw [h0]
  exact WE
 rintro k hk K hK
 by_cases hlt:k<R.length
 rotate_left
 ·have d1:decide ((k:Int)<(R.length:Int))=false:=by simpa using hlt
  have hke:k=R.length:=by omega
  subst hke
  rw [SP]
  (refine Wu @d1 ?_;(repeat clear hK K);repeat refine kq fun K hK=>?_)
  refine WC ?_
  (refine Wx ?_;repeat clear hK K)
  have hlC:=Om hv
  have hrC:∀ r∈R.map Yj,r.length<=1000000:=fun r h=>by
   obtain ⟨q,hq,rfl⟩:=List.mem_map.1 h
   have:=HH q
   have:=hr q hq
   omega
  have hlm:(R.map Yj).length=R.length:=List.length_map _
  generalize R.map Yj=T at *
  have htk:(Ah T).take R.length=Ah T:=gE7 (by rw [A3];omega)
  (refine Au (Bg (r:=⟨42,1,true,AO T⟩) 2 (Ah T) rfl (CZ _) (show 0<(1:Nat) by omega)) ?_;simp only [ST.frz,A0.frz,AV.frz,C.frz,Nat.le_refl,List.set_cons_zero,List.set_cons_succ,go_sem,htk,A3,hlm])
  (refine Wt ?_;(repeat clear hK K);repeat refine kq fun K hK=>?_)
  (refine Wy (Iv T hlC (by omega) hrC) ?_;intro K1 hK1)
  rintro _ _ ⟨rfl,rfl⟩
  (refine Wz ?_;clear hK1 K1)
  (refine Jb ?_;(repeat clear hK K);repeat refine kq fun K hK=>?_)
  exact Lq [1] Tryz.results14
 have d1:decide ((k:Int)<(R.length:Int))=true:=by simpa using hlt
 have hg:=LW (Oj hlt)
 have hsu:=Qw hlt
 have hlen:(AO (Yk R k)).length=R.length:=by unfold AO;rw [List.length_map,Oi]
 (refine Wu @d1 ?_;(repeat clear hK K);repeat refine kq fun K hK=>?_)
 refine WB ?_
 (refine Wt ?_;(repeat clear hK K);repeat refine kq fun K hK=>?_)
 (refine Wy (hst k hlt) ?_;intro K1 hK1)
 rintro _ _ ⟨rfl,rfl⟩
 (refine Wz ?_;clear hK1 K1)
 (refine Wt ?_;(repeat clear hK K);repeat refine kq fun K hK=>?_)
 (refine At ?_;intro X Y hX hY;simp only [go_sem])
 refine ⟨fun h=>hX ?_,fun h=>hY ?_⟩
 rotate_left
 ·clear hX hY X Y
  have e:Yk R (k+1)=Yk R k:=by
   rw [hsu]
   have:Yj R[k]=R[k]:=by unfold Yj;rw [if_pos (by simpa using h)]
   rw [this]
   refine List.ext_getElem? fun j=>?_
   by_cases hj:k=j
   rotate_left
   ·rw [gE5 hj]
   subst hj
   rw [gEc (by rw [Oi];exact hlt),Oj hlt]
  (refine Wt ?_;(repeat clear hK K);repeat refine kq fun K hK=>?_)
  refine WD ?_
  refine hK _ (k+1) (by omega) (by omega) ?_
  rw [e]
  exact WE
 obtain ⟨a,q,hq⟩:∃ a q,R[k]=a :: q:=by
  cases e:R[k] with
  | nil=>rw [e] at h;simp [Xd] at h
  | cons a q=>exact ⟨a,q,rfl⟩
 rw [hq] at hg
 clear hX hY X Y
 have h2:(Ao (a :: q)).take 2=Ao (Yj R[k]):=by
  have:Yj R[k]=[a]:=by unfold Yj;rw [if_neg (by simpa using h),hq];rfl
  rw [this];rfl
 (refine Cn (an @hg (an @hlen (an @A2 (an @List.length_cons.{0} (an @Int.toNat_one (an @h2 @LV)))))) ?_;(repeat clear hK K);repeat refine kq fun K hK=>?_)
 refine WD ?_
 refine hK _ (k+1) (by omega) (by omega) ?_
 rw [hsu]
 exact WE
open Go.RowKit Go.Shelf Go.Sort
attribute [local go_sem] List.map_cons List.map_nil List.take_succ_cons List.take_zero List.drop_zero List.drop_succ_cons C.pl C.one List.all_cons List.all_nil Bool.and_true
theorem On (x y:Operand) (a:Ar):FR Tryz.prog .neq 46 x y [.int .i64 a.1,.int .i64 a.2] [.int .i64 a.1,.int .i64 a.2] false=True:=by
 have h:=Nc x y a a
 rw [gEg (rfl:a=a)] at h
 exact h
theorem LX (r:List Ar) (hn:r.length<=1000000):FC Tryz.prog 54 [.a (.c (.t 2 (Ao r))),.a (.c (.t 2 (Ao r)))] [] (fun x o=>o=[]/\x=.b true):=by
 refine A6 Tryz.func54 rfl (by rw [Tryz.ntmps54];simp) ?_
 rw [Tryz.ntmps54]
 simp only [Bf]
 have d0:((r.length:Int) != (r.length:Int))=false:=by simp
 (refine Wu (an @A2 (an @Ak @d0)) ?_;(repeat clear hK K);repeat refine kq fun K hK=>?_)
 refine WC ?_
 (refine Wt ?_;(repeat clear hK K);repeat refine kq fun K hK=>?_)
 refine A8 (fun k:Nat=>{ tm:=[(0,.a (.c (.t 2 (Ao r)))),(1,.a (.c (.t 2 (Ao r)))),(5,.i k)],hp:=[],n:=26,pin:=0 }) (fun k=>k<=r.length) (fun k=>r.length - k) 0 ?_ ?_ ?_
 ·omega
 ·exact WE
 rintro k hk K hK
 by_cases hlt:k<r.length
 rotate_left
 ·have d1:decide ((k:Int)<(r.length:Int))=false:=by simpa using hlt
  (refine Wu (an @d1 (an @A2 @Ak)) ?_;(repeat clear hK K);repeat refine kq fun K hK=>?_)
  refine WC ?_
  (refine Wx ?_;repeat clear hK K)
  (refine Wt ?_;(repeat clear hK K);repeat refine kq fun K hK=>?_)
  exact Lq [] Tryz.results54
 have d1:decide ((k:Int)<(r.length:Int))=true:=by simpa using hlt
 have hat:=AL hlt
 have d2:(!decide (r[k]=r[k]))=false:=by simp
 (refine Wu (an @d1 (an @A2 @Ak)) ?_;(repeat clear hK K);repeat refine kq fun K hK=>?_)
 refine WB ?_
 (refine Wt ?_;(repeat clear hK K);repeat refine kq fun K hK=>?_)
 (refine Ac 8 [(0,0),(1,0),(2,0),(3,1),(4,0),(5,0),(6,0),(7,1),(8,2)] (by kernel_rfl) (by kernel_rfl) (by intro c st h;simp [Ae,AF,VT] at h) ?_)
 (repeat (first | ((first | refine Rz rfl rfl rfl ?_ | refine RA rfl rfl rfl ?_);intro K1 hK1;simp only [go_sem,hat,A2,Ak,On,Dm,decide_true,Bool.not_true,beq_self_eq_true,Bool.and_self,true_and];(first | refine hK1 _ ?_ | refine AD (hK1 _ ?_));clear hK1 K1) | (refine RB rfl rfl rfl rfl ?_;intro K1 hK1;simp only [go_sem,hat,A2,Ak,On,Dm,decide_true,Bool.not_true,beq_self_eq_true,Bool.and_self,true_and];(first | refine hK1 _ ?_ | refine AD (hK1 _ ?_));clear hK1 K1) | (refine H9 ?_;refine hK _ ?_;clear hK K)))
 refine WC ?_
 (refine Wt ?_;(repeat clear hK K);repeat refine kq fun K hK=>?_)
 refine WD ?_
 refine hK _ (k+1) (by omega) (by omega) ?_
 exact WE
theorem JC (R:List (List Ar)) (hn:R.length<=1000000) (hr:∀ r∈R,r.length<=1000000):FC Tryz.prog 29 [B7 R,B7 R] [] (fun x o=>o=[]/\x=.b true):=by
 refine A6 Tryz.func29 rfl (by rw [Tryz.ntmps29];simp) ?_
 rw [Tryz.ntmps29]
 simp only [Bf,B7]
 have d0:((R.length:Int) != (R.length:Int))=false:=by simp
 (refine Wu (an @A3 @d0) ?_;(repeat clear hK K);repeat refine kq fun K hK=>?_)
 refine WC ?_
 (refine Wt ?_;(repeat clear hK K);repeat refine kq fun K hK=>?_)
 refine A8 (fun k:Nat=>{ tm:=[(2,.a (.c (.p 0 0))),(3,.a (.c (.p 1 0))),(5,.i k)],hp:=[.r ⟨25,1,false,[.t 1 (Ah R)]⟩,.r ⟨25,1,false,[.t 1 (Ah R)]⟩],n:=32,pin:=0 }) (fun k=>k<=R.length) (fun k=>R.length - k) 0 ?_ ?_ ?_
 ·omega
 ·exact WE
 rintro k hk K hK
 by_cases hlt:k<R.length
 rotate_left
 ·have d1:decide ((k:Int)<(R.length:Int))=false:=by simpa using hlt
  (refine Wu (an @d1 @A3) ?_;(repeat clear hK K);repeat refine kq fun K hK=>?_)
  refine WC ?_
  (refine Wx ?_;repeat clear hK K)
  (refine Wt ?_;(repeat clear hK K);repeat refine kq fun K hK=>?_)
  exact Lq [] Tryz.results29
 have d1:decide ((k:Int)<(R.length:Int))=true:=by simpa using hlt
 have hg:=gE1 hlt
 (refine Wu (an @d1 @A3) ?_;(repeat clear hK K);repeat refine kq fun K hK=>?_)
 refine WB ?_
 (refine Wt ?_;(repeat clear hK K);repeat refine kq fun K hK=>?_)
 (refine Ac 10 [(0,0),(1,1),(2,0),(3,0),(4,1),(5,0),(6,1),(7,0),(8,0),(9,1),(10,2),(11,0)] (by kernel_rfl) (by kernel_rfl) (by intro c st h;simp [Ae,AF,VT] at h) ?_)
 (refine Wq (an @A3 (Ag hg)) ?_;repeat clear hK K)
 (refine MF (LX R[k] (hr _ (gE6 hlt))) ?_;intro K1 hK1)
 rintro _ _ ⟨rfl,rfl⟩
 (refine Wz ?_;clear hK1 K1)
 (refine Wq @Bool.not_true ?_;repeat clear hK K)
 refine WC ?_
 (refine Wt ?_;(repeat clear hK K);repeat refine kq fun K hK=>?_)
 refine WD ?_
 refine hK _ (k+1) (by omega) (by omega) ?_
 exact WE
theorem SR {α:Type} (a b:α) (k m:Nat):(List.replicate k a++List.replicate (m+1) b).set k a=List.replicate (k+1) a++List.replicate m b:=by
 rw [List.set_append_right _ _ (by simp),List.length_replicate,Nat.sub_self,List.replicate_succ,List.set_cons_zero,List.replicate_succ' (n:=k),List.append_assoc];rfl
theorem LY {r:List Ar} {k:Nat} (h:k<r.length):(r.take (k+1)).foldl (fun acc a=>D1 a acc) []=D1 r[k] ((r.take k).foldl (fun acc a=>D1 a acc) []):=by
 rw [gE8 h,List.foldl_append];rfl
theorem Oo (r:List Ar) (k:Nat):((r.take k).foldl (fun acc a=>D1 a acc) []).length<=k:=by
 have:=EC (r.take k) []
 simp only [List.length_nil,Nat.zero_add,List.length_take] at this
 omega
set_option maxHeartbeats 8000000 in
theorem Oq (R:List (List Ar)) (h1:1<=R.length) (hbd:∀ r∈R,∀ a∈r,0<=a.2/\a.2<(R.length:Int)) (hn:R.length<=1000000) (hr:∀ r∈R,r.length<=1000000):FC Tryz.prog 53 [B7 R] [] (fun r o=>o=[.r ⟨25,1,false,[.t 1 (Ah (BT R).1)]⟩]/\r=.tup [.g [.t 1 (Ah (BT R).1)],.c (.t 1 (Ab (BT R).2))]):=by
 refine A6 Tryz.func53 rfl (by rw [Tryz.ntmps53];simp) ?_
 rw [Tryz.ntmps53]
 simp only [Bf,B7]
 (refine Wu @A3 ?_;(repeat clear hK K);repeat refine kq fun K hK=>?_)
 have e0:List.replicate R.length (C.v (.int .i64 0))=A7 (List.replicate R.length 0):=by simp [A7]
 rw [e0]
 refine A8 (fun k:Nat=>{ tm:=[(1,.a (.c (.p 0 0))),(2,.a (.c (.p 1 0))),(4,.a (.c (.s 2 R.length))),(5,.i k)],hp:=[.r ⟨25,1,false,[.t 1 (Ah R)]⟩,.r ⟨25,1,false,[.v (.slice none 0 0)]⟩,.r ⟨3,1,true,A7 (List.replicate k (-1)++List.replicate (R.length - k) 0)⟩],n:=117,pin:=0 }) (fun k=>k<=R.length) (fun k=>R.length - k) 0 ?_ ?_ ?_
 ·omega
 ·simp only [List.replicate_zero,List.nil_append,Nat.sub_zero]
  exact WE
 rintro k hk K hK
 by_cases hlt:k<R.length
 ·have d1:decide ((k:Int)<(R.length:Int))=true:=by simpa using hlt
  obtain ⟨m,hm⟩:∃ m,R.length - k=m+1:=⟨R.length - k - 1,by omega⟩
  have hm2:R.length - (k+1)=m:=by omega
  have hl:(List.replicate k (-1:Int)++List.replicate (m+1) 0).length=R.length:=by simp;omega
  rw [hm]
  (refine Wu (an @d1 (an @A5 @hl)) ?_;(repeat clear hK K);repeat refine kq fun K hK=>?_)
  refine WB ?_
  (refine Cn (an @A5 (an @hl (an @AK @SR))) ?_;(repeat clear hK K);repeat refine kq fun K hK=>?_)
  refine WD ?_
  refine hK _ (k+1) (by omega) (by omega) ?_
  rw [hm2]
  exact WE
 have d1:decide ((k:Int)<(R.length:Int))=false:=by simpa using hlt
 have hke:k=R.length:=by omega
 rw [hke] at d1
 have e1:List.replicate R.length (-1:Int)++List.replicate (R.length - R.length) 0=List.replicate R.length (-1):=by simp
 have hlr:(List.replicate R.length (-1:Int)).length=R.length:=by simp
 rw [hke,e1]
 (refine Wu (an @d1 (an @A5 @hlr)) ?_;(repeat clear hK K);repeat refine kq fun K hK=>?_)
 refine WC ?_
 (refine Wx ?_;repeat clear hK K)
 have g0:0<(List.replicate R.length (-1:Int)).length:=by simp;omega
 (refine Cn (an @A5 (an @hlr @AK)) ?_;(repeat clear hK K);repeat refine kq fun K hK=>?_)
 refine Au (Nl 42 1) ?_
 simp only [List.cons_append,List.nil_append]
 refine Au (Jj 4 0 5 (by decide) rfl rfl rfl) ?_
 simp only [List.set_cons_zero,List.set_cons_succ]
 refine A8 (fun x:Nat × List Int × List Int × List (List Ar)=>{ tm:=[(1,.a (.c (.p 0 0))),(2,.a (.c (.p 1 0))),(4,.a (.c (.s 2 R.length))),(6,.a (.c (.s 3 x.2.2.1.length))),(7,.a (.c (.p 4 0))),(8,.i x.1)],hp:=[.r ⟨25,1,false,[.t 1 (Ah R)]⟩,.r ⟨25,1,false,[.v (.slice none 0 0)]⟩,.r ⟨3,1,true,A7 x.2.1⟩,.r ⟨3,1,true,A7 x.2.2.1⟩,.r ⟨25,1,false,[.s 5 x.1]⟩,.r ⟨42,1,true,AO x.2.2.2⟩],n:=117,pin:=0 }) (fun x=>NumOk R.length x.2.1 x.2.2.1/\F2 R (R.length - x.1) x.1 x.2.1 x.2.2.1 x.2.2.2=BT R/\x.1<=x.2.2.1.length/\x.2.2.2.length=x.1) (fun x=>R.length - x.1) (0,(List.replicate R.length (-1)).set 0 0,[0],[]) ?_ ?_ ?_
 ·exact ⟨NumOk.start h1,rfl,by simp,rfl⟩
 ·exact WE
 rintro ⟨i,num,old,out⟩ ⟨hN,hC,hio,hoi⟩ K hK
 simp only at hN hC hio hoi
 have hlen:=hN.len
 have hle:=hN.le
 by_cases hlt2:i<old.length
 rotate_left
 ·have d2:decide ((i:Int)<(old.length:Int))=false:=by simpa using hlt2
  have hfin:BT R=(out,old):=by rw [<- hC];exact GT (by omega)
  (refine Wu (an @d2 @A5) ?_;(repeat clear hK K);repeat refine kq fun K hK=>?_)
  refine WC ?_
  (refine Wx ?_;repeat clear hK K)
  have htk:(Ah out).take i=Ah out:=gE7 (by rw [A3];omega)
  have htk2:(Ab old).take old.length=Ab old:=gE7 (by rw [A4];exact Nat.le_refl _)
  refine Au (AR (r:=⟨42,1,true,AO out⟩) (ri:=⟨25,1,false,[.s 5 i]⟩) (ts:=Ah out) 4 0 5 i (by decide) rfl rfl rfl rfl (show 0<1 by omega) (by simp only [Ay,hoi];omega) (CZ _)) ?_
  simp only [go_sem]
  refine Au (Cm 4 rfl) ?_
  simp only [VX,go_sem]
  (refine Au (Bg (r:=⟨3,1,true,A7 old⟩) 3 (Ab old) rfl (EM _) (show 0<(1:Nat) by omega)) ?_;simp only [ST.frz,A0.frz,AV.frz,C.frz,Nat.le_refl,List.set_cons_zero,List.set_cons_succ,go_sem,htk2,A4])
  (refine Jb ?_;(repeat clear hK K);repeat refine kq fun K hK=>?_)
  refine WF [1] Tryz.results53 ?_
  rw [hfin]
  exact ⟨rfl,rfl⟩
 have d2:decide ((i:Int)<(old.length:Int))=true:=by simpa using hlt2
 have hs0:=hN.st _ (gE6 hlt2)
 obtain ⟨sn,hsn⟩:∃ sn:Nat,old[i]=sn:=⟨old[i].toNat,by omega⟩
 have hsl:sn<R.length:=by omega
 have go:(A7 old)[i]?=some (.v (.int .i64 sn)):=by rw [<- hsn];exact Aq (gE1 hlt2)
 have hgR:=gE1 hsl
 have hrl:=hr _ (gE6 hsl)
 have hbr:=hbd _ (gE6 hsl)
 have hst:=GU (rows:=R) (n:=R.length) (i:=i) (num:=num) (old:=old) (out:=out) (s:=(sn:Int)) (r:=R[sn]) (by omega) (by rw [gE1 hlt2,hsn]) (by simp [hgR]) rfl
 generalize hrr:R[sn]=r at *
 (refine Wu (an @d2 @A5) ?_;(repeat clear hK K);repeat refine kq fun K hK=>?_)
 refine WB ?_
 (refine Wt ?_;(repeat clear hK K);repeat refine kq fun K hK=>?_)
 refine Au (J5 9 2 ?_) ?_
 ·simp only [go_sem]
 refine A8 (fun k:Nat=>{ tm:=[(1,.a (.c (.p 0 0))),(2,.a (.c (.p 1 0))),(4,.a (.c (.s 2 R.length))),(6,.a (.c (.s 3 old.length))),(7,.a (.c (.p 4 0))),(8,.i i),(9,.a (.c (.t 2 (Ao ((r.take k).foldl (fun acc a=>D1 a acc) []))))),(10,.i k)],hp:=[.r ⟨25,1,false,[.t 1 (Ah R)]⟩,.r ⟨25,1,false,[.v (.slice none 0 0)]⟩,.r ⟨3,1,true,A7 num⟩,.r ⟨3,1,true,A7 old⟩,.r ⟨25,1,false,[.s 5 i]⟩,.r ⟨42,1,true,AO out⟩],n:=117,pin:=0 }) (fun k=>k<=r.length) (fun k=>r.length - k) 0 ?_ ?_ ?_
 ·omega
 ·simp only [List.take_zero,List.foldl_nil,show Ao ([]:List (Int × Int))=[] from rfl]
  exact WE
 rintro k hk K hK
 by_cases hlt3:k<r.length
 ·have d3:decide ((k:Int)<(r.length:Int))=true:=by simpa using hlt3
  have hat:=AL hlt3
  have hsn3:=LY hlt3
  have hfl:=Oo r k
  generalize (r.take k).foldl (fun acc a=>D1 a acc) []=rk at *
  (refine Wt ?_;(repeat clear hK K);repeat refine kq fun K hK=>?_)
  (refine Ac 10 [(0,0),(1,0),(2,1),(3,0),(4,0),(5,0),(6,1),(7,0),(8,1),(9,0),(10,2)] (by kernel_rfl) (by kernel_rfl) (by intro c st h;simp [Ae,AF,VT] at h) ?_)
  (refine Wq (an @A3 (an (Ag hgR) (an @A5 (an @go (an @A2 (an @Ak @d3)))))) ?_;repeat clear hK K)
  refine WB ?_
  (refine Wt ?_;(repeat clear hK K);repeat refine kq fun K hK=>?_)
  (refine Ac 12 [(0,0),(1,0),(2,1),(3,0),(4,0),(5,0),(6,1),(7,0),(8,1),(9,0),(10,0),(11,1),(12,2),(13,0)] (by kernel_rfl) (by kernel_rfl) (by intro c st h;simp [Ae,AF,VT] at h) ?_)
  (refine Wq (an @A3 (an (Ag hgR) (an @A5 (an @go (an @A2 (an @Ak @hat)))))) ?_;repeat clear hK K)
  (refine MF (EX rk r[k] (by omega)) ?_;intro K1 hK1)
  rintro _ _ ⟨rfl,rfl⟩
  (simp only [As,Bl,BK,List.append_nil,List.nil_append,List.length_map,go_sem];refine hK1 _ ?_;clear hK1 K1)
  (refine Wp ?_;repeat clear hK K)
  (refine Wt ?_;(repeat clear hK K);repeat refine kq fun K hK=>?_)
  refine WD ?_
  refine hK _ (k+1) (by omega) (by omega) ?_
  rw [hsn3]
  exact WE
 have d3:decide ((k:Int)<(r.length:Int))=false:=by simpa using hlt3
 have hq0:(r.take k).foldl (fun acc a=>D1 a acc) []=Cq r:=by rw [gE7 (by omega)];rfl
 rw [hq0]
 (refine Wt ?_;(repeat clear hK K);repeat refine kq fun K hK=>?_)
 (refine Ac 10 [(0,0),(1,0),(2,1),(3,0),(4,0),(5,0),(6,1),(7,0),(8,1),(9,0),(10,2)] (by kernel_rfl) (by kernel_rfl) (by intro c st h;simp [Ae,AF,VT] at h) ?_)
 (refine Wq (an @A3 (an (Ag hgR) (an @A5 (an @go (an @A2 (an @Ak @d3)))))) ?_;repeat clear hK K)
 refine WC ?_
 (refine Wx ?_;repeat clear hK K)
 have hqb:∀ a∈Cq r,0<=a.2/\a.2<(R.length:Int):=fun a ha=>by
  rw [C8] at ha
  exact hbr a ha
 have hql:=Gj r
 generalize hqd:Cq r=q at *
 (refine Wt ?_;(repeat clear hK K);repeat refine kq fun K hK=>?_)
 refine Au (J5 11 2 ?_) ?_
 ·simp only [go_sem]
 refine A8 (fun x:Nat × List Int × List Int × List Ar=>{ tm:=[(1,.a (.c (.p 0 0))),(2,.a (.c (.p 1 0))),(4,.a (.c (.s 2 R.length))),(6,.a (.c (.s 3 x.2.2.1.length))),(7,.a (.c (.p 4 0))),(8,.i i),(9,.a (.c (.t 2 (Ao q)))),(11,.a (.c (.t 2 (Ao x.2.2.2)))),(12,.i x.1)],hp:=[.r ⟨25,1,false,[.t 1 (Ah R)]⟩,.r ⟨25,1,false,[.v (.slice none 0 0)]⟩,.r ⟨3,1,true,A7 x.2.1⟩,.r ⟨3,1,true,A7 x.2.2.1⟩,.r ⟨25,1,false,[.s 5 i]⟩,.r ⟨42,1,true,AO out⟩],n:=117,pin:=0 }) (fun x=>x.1<=q.length/\NumOk R.length x.2.1 x.2.2.1/\old.length<=x.2.2.1.length/\x.2.2.2.length<=x.1/\Cr (q.drop x.1) x.2.1 x.2.2.1 x.2.2.2=Cr q num old []) (fun x=>q.length - x.1) (0,num,old,[]) ?_ ?_ ?_
 ·exact ⟨by simp,hN,Nat.le_refl _,by simp,rfl⟩
 ·simp only [show Ao ([]:List (Int × Int))=[] from rfl]
  exact WE
 rintro ⟨k,num1,old1,nxt⟩ ⟨hk,hN1,hol,hnl,hgo⟩ K hK
 simp only at hk hN1 hol hnl hgo
 have hlen1:=hN1.len
 have hle1:=hN1.le
 by_cases hlt4:k<q.length
 rotate_left
 ·have d4:decide ((k:Int)<(q.length:Int))=false:=by simpa using hlt4
  rw [List.drop_of_length_le (by omega)] at hgo
  rw [<- hgo] at hst
  simp only [Cr] at hst
  (refine Wu (an @d4 (an @A2 @Ak)) ?_;(repeat clear hK K);repeat refine kq fun K hK=>?_)
  refine WC ?_
  (refine Wx ?_;repeat clear hK K)
  have crp:=GX out nxt hoi
  (refine Cn (an @Ay (an @hoi @crp)) ?_;(repeat clear hK K);repeat refine kq fun K hK=>?_)
  refine WD ?_
  refine hK _ (i+1,num1,old1,out++[nxt]) ⟨hN1,by simp only;rw [<- hC,hst],by simp only;omega,by simp [hoi]⟩ (by simp only;omega) ?_
  refine Le.trans (A9 [0,1,2,3,4,7] rfl rfl) ?_
  (try simp only [List.set_nil,List.take_nil,List.take_zero,List.map_append,go_sem])
  (try simp only [Af,Bs])
  exact WE
 have d4:decide ((k:Int)<(q.length:Int))=true:=by simpa using hlt4
 have hyb:=hqb _ (gE6 hlt4)
 obtain ⟨e,tn,hya⟩:∃ (e:Int) (tn:Nat),q[k]=(e,(tn:Int)):=⟨q[k].1,q[k].2.toNat,by
  have:(q[k].2.toNat:Int)=q[k].2:=by omega
  rw [this]⟩
 have htl:tn<R.length:=by rw [hya] at hyb;have:=hyb.2;simp only at this;omega
 have ha0:=CC hlt4
 have ha1:=Dn hlt4
 rw [hya] at ha0 ha1
 have gn:(A7 num1)[tn]?=some (.v (.int .i64 num1[tn])):=Aq (gE1 (by omega))
 have gn2:num1[tn]?=some num1[tn]:=gE1 (by omega)
 have hdr:q.drop k=(e,(tn:Int)) :: q.drop (k+1):=by rw [List.drop_eq_getElem_cons hlt4,hya]
 (refine Wu (an @d4 (an @A2 @Ak)) ?_;(repeat clear hK K);repeat refine kq fun K hK=>?_)
 refine WB ?_
 by_cases hx:num1[tn]<0
 rotate_left
 ·have d5:decide (num1[tn]<0)=false:=by simpa using hx
  (refine Cn (an @ha1 (an @A2 (an @Ak (an @gn (an @d5 (an @A5 @hlen1)))))) ?_;(repeat clear hK K);repeat refine kq fun K hK=>?_)
  refine WC ?_
  (refine Wt ?_;(repeat clear hK K);repeat refine kq fun K hK=>?_)
  (refine Ac 15 [(0,0),(1,0),(2,0),(3,0),(4,0),(5,1),(6,0),(7,0),(8,0),(9,0),(10,0),(11,1),(12,0),(13,1),(14,0),(15,2),(16,0)] (by kernel_rfl) (by kernel_rfl) (by intro c st h;simp [Ae,AF,VT] at h) ?_)
  (refine Wq (an @ha0 (an @ha1 (an @A2 (an @Ak (an @A5 (an @hlen1 @gn)))))) ?_;repeat clear hK K)
  (refine MF (EX nxt (e,num1[tn]) (by omega)) ?_;intro K1 hK1)
  rintro _ _ ⟨rfl,rfl⟩
  (simp only [As,Bl,BK,List.append_nil,List.nil_append,List.length_map,go_sem];refine hK1 _ ?_;clear hK1 K1)
  (refine Wp ?_;repeat clear hK K)
  (refine Wt ?_;(repeat clear hK K);repeat refine kq fun K hK=>?_)
  refine WD ?_
  have hin:=DO (e,num1[tn]) nxt
  refine hK _ (k+1,num1,old1,D1 (e,num1[tn]) nxt) ⟨hlt4,hN1,hol,by simp only;omega,by simp only;rw [<- hgo,hdr,N0 gn2 hx]⟩ (by simp only;omega) ?_
  exact WE
 have d5:decide (num1[tn]<0)=true:=by simpa using hx
 have gs:(A7 (num1.set tn (old1.length:Int)))[tn]?=some (.v (.int .i64 (old1.length:Int))):=Aq (gEc (by omega))
 have op:=Ho old1 (tn:Int)
 (refine Cn (an @ha1 (an @A2 (an @Ak (an @gn (an @d5 (an @A5 @hlen1)))))) ?_;(repeat clear hK K);repeat refine kq fun K hK=>?_)
 refine WB ?_
 (refine Cn (an @ha1 (an @A2 (an @Ak (an @A5 (an @hlen1 (an @AK (an @op @List.length_set.{0}))))))) ?_;(repeat clear hK K);repeat refine kq fun K hK=>?_)
 (refine Ac 15 [(0,0),(1,0),(2,0),(3,0),(4,0),(5,1),(6,0),(7,0),(8,0),(9,0),(10,0),(11,1),(12,0),(13,1),(14,0),(15,2),(16,0)] (by kernel_rfl) (by kernel_rfl) (by intro c st h;simp [Ae,AF,VT] at h) ?_)
 (refine Wq (an @ha0 (an @ha1 (an @A2 (an @Ak (an @A5 (an @hlen1 (an @gs @List.length_set.{0}))))))) ?_;repeat clear hK K)
 (refine MF (EX nxt (e,(old1.length:Int)) (by omega)) ?_;intro K1 hK1)
 rintro _ _ ⟨rfl,rfl⟩
 (simp only [As,Bl,BK,List.append_nil,List.nil_append,List.length_map,go_sem];refine hK1 _ ?_;clear hK1 K1)
 (refine Wp ?_;repeat clear hK K)
 (refine Wt ?_;(repeat clear hK K);repeat refine kq fun K hK=>?_)
 refine WD ?_
 have hone:AX num1 old1 (tn:Int)=(num1.set tn (old1.length:Int),old1++[(tn:Int)]):=by
  simp only [AX,Int.toNat_natCast,List.getD,gn2,Option.getD_some,if_pos hx]
 have hN2:=hN1.one (t:=(tn:Int)) (by omega) (by omega)
 rw [hone] at hN2
 have hin:=DO (e,(old1.length:Int)) nxt
 refine hK _ (k+1,num1.set tn (old1.length:Int),old1++[(tn:Int)],D1 (e,(old1.length:Int)) nxt) ⟨hlt4,hN2,by simp;omega,by simp only;omega,by simp only;rw [<- hgo,hdr,MZ gn2 hx rfl]⟩ (by simp only;omega) ?_
 refine Le.trans (A9 [0,1,2,7,4,5] rfl rfl) ?_
 (try simp only [List.set_nil,List.take_nil,List.take_zero,List.map_append,go_sem])
 (try simp only [Af,Bs])
 simp only [List.length_append,List.length_cons,List.length_nil]
 exact WE
def Yl (f:Nat->Nat) (c:Nat) (o:List (List Ar)) (a:Ar):List (List Ar):=o.set c (D1 (a.1,(f a.2.toNat:Int)) (o.getD c []))
def V1 (f:Nat->Nat) (c:Nat) (o:List (List Ar)) (row:List Ar):List (List Ar):=row.foldl (Yl f c) o
theorem SS (f:Nat->Nat) (c:Nat) (o:List (List Ar)) (a:Ar):(Yl f c o a).length=o.length:=by simp [Yl]
def SameS (o p:List (List Ar)):Prop:=o.length=p.length/\∀ i a,a∈o.getD i []↔a∈p.getD i []
theorem SameS.one {f:Nat->Nat} {c:Nat} {o p:List (List Ar)} (h:SameS o p) (a:Ar):SameS (Yl f c o a) (WW f c p a):=by
 refine ⟨by rw [SS,RX];exact h.1,fun i b=>?_⟩
 have h1:=h.1
 unfold Yl WW
 simp only [gE2,List.getElem?_set]
 by_cases hi:c=i
 rotate_left
 ·rw [if_neg hi,if_neg hi]
  have h2:=h.2 i b
  simpa only [gE2] using h2
 subst hi
 by_cases hc:c<o.length
 rotate_left
 ·rw [if_pos rfl,if_neg hc,if_pos rfl,if_neg (by omega)]
 have h2:=h.2 c b
 simp only [gE2] at h2
 rw [if_pos rfl,if_pos hc,if_pos rfl,if_pos (by omega)]
 simp only [Option.getD_some,FH,List.mem_append,List.mem_singleton,h2,or_comm]
theorem SameS.row {f:Nat->Nat} {c:Nat}:∀ (row:List Ar) {o p:List (List Ar)},SameS o p->SameS (V1 f c o row) (US f c p row)
 | [],_,_,h=>h
 | a :: r,_,_,h=>SameS.row r (h.one a)
end Go.Proofs.YtjijjfkalheokaaGreatDoor
