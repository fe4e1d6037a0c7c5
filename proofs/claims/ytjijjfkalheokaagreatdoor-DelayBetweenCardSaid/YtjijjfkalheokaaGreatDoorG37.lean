/- Lemmas. -/
import Derived.Test.YtjijjfkalheokaaGreatDoorG36
import Derived.Test.YtjijjfkalheokaaGreatDoorG11
import Derived.Test.YtjijjfkalheokaaGreatDoorG70
import Derived.Test.YtjijjfkalheokaaGreatDoorTl3
import Derived.Test.YtjijjfkalheokaaGreatDoorZk
import Derived.Test.YtjijjfkalheokaaGreatDoorMK
import Derived.Test.YtjijjfkalheokaaGreatDoorMF
import Derived.Test.YtjijjfkalheokaaGreatDoorG39
import Derived.Test.YtjijjfkalheokaaGreatDoorMlz
import Derived.Test.YtjijjfkalheokaaGreatDoorG45
import Derived.Test.YtjijjfkalheokaaGreatDoorG67
namespace Go.Proofs.YtjijjfkalheokaaGreatDoor
set_option linter.unusedVariables false
set_option linter.unusedSimpArgs false
open Go.RowKit
set_option maxRecDepth 100000
attribute [local go_sem] List.set_cons_zero List.set_cons_succ List.map_cons List.map_nil List.take_succ_cons List.take_zero List.drop_zero List.drop_succ_cons C.pl C.one List.all_cons List.all_nil Bool.and_true

attribute [local go_sem] lga C.pl C.one
theorem OC (r:List Ar):∀ (num old:List Int) (nxt:List Ar),(Cr r num old nxt).2.2.length<=nxt.length+r.length:=by
 induction r with
 | nil=>intro num old nxt;simp [Cr]
 | cons a tl ih=>
  intro num old nxt
  have h1:=ih (AX num old a.2).1 (AX num old a.2).2 (D1 (a.1,(AX num old a.2).1.getD a.2.toNat 0) nxt)
  have h2:=DO (a.1,(AX num old a.2).1.getD a.2.toNat 0) nxt
  simp only [Cr,List.length_cons]
  omega
theorem QE {R:List (List Ar)} {B:Nat} (hb:∀ r∈R,∀ a∈r,0<=a.2/\a.2<(R.length:Int)) (hB:∀ r∈R,r.length<=B):∀ (f i:Nat) (num old:List Int) (out:List (List Ar)),NumOk R.length num old->i=out.length->i<=old.length->(∀ x∈out,x.length<=B)->(F2 R f i num old out).1.length<=R.length/\∀ x∈(F2 R f i num old out).1,x.length<=B:=by
 intro f
 induction f with
 | zero=>
  intro i num old out hN hi ho hx
  have:=hN.le
  exact ⟨by simp only [F2];omega,hx⟩
 | succ f ih=>
  intro i num old out hN hi ho hx
  have hle:=hN.le
  unfold F2
  split
  ·exact ⟨by simp only;omega,hx⟩
  rename_i s hs
  have hs0:=hN.st s (gE9 hs)
  have hsl:s.toNat<R.length:=by omega
  have hg:R.getD s.toNat []=R[s.toNat]:=by rw [gE2,gE1 hsl];rfl
  rw [hg]
  have hil:=(List.getElem?_eq_some_iff.1 hs).1
  have hrm:=gE6 hsl
  generalize R[s.toNat]=r at *
  have hq:∀ a∈Cq r,0<=a.2/\a.2<(R.length:Int):=fun a ha=>hb r hrm a ((C8 r a).1 ha)
  have hN2:=NumOk.go (Cq r) [] hN hq
  have hl2:=OC (Cq r) num old []
  have hl3:=Gj r
  have hl4:=hB r hrm
  refine ih _ _ _ _ hN2 (by simp;omega) ?_ fun x hx2=>?_
  rotate_left
  ·rcases List.mem_append.1 hx2 with h | h
   ·exact hx x h
   simp at h;subst h
   simp only [List.length_nil,Nat.zero_add] at hl2
   omega
  have:∀ (q:List Ar) (num old:List Int) (nxt:List Ar),old.length<=(Cr q num old nxt).2.1.length:=by
   intro q
   induction q with
   | nil=>intro num old nxt;exact Nat.le_refl _
   | cons a tl ih2=>
    intro num old nxt
    simp only [Cr]
    refine Nat.le_trans ?_ (ih2 _ _ _)
    unfold AX
    split <;> simp
  have:=this (Cq r) num old []
  omega
theorem OD {R:List (List Ar)} {B:Nat} (h1:1<=R.length) (hb:∀ r∈R,∀ a∈r,0<=a.2/\a.2<(R.length:Int)) (hB:∀ r∈R,r.length<=B):(BT R).1.length<=R.length/\∀ x∈(BT R).1,x.length<=B:=
 QE hb hB _ _ _ _ _ (NumOk.start h1) rfl (by simp) (by simp)
theorem YF (l:List Int) (c:Int):∀ m:Int,Zk (l++[c]) m=(Zk l m && (!decide (c<0) && !decide (c > ZC m l))):=by
 induction l with
 | nil=>intro m;simp [Zk,ZC]
 | cons a r ih=>
  intro m
  have e:ZC m (a :: r)=ZC (ZB m a) r:=rfl
  simp only [List.cons_append,Zk,ih,e,Bool.and_assoc]
theorem Zr {α:Type} [DecidableEq α] (f:Nat->α) (k:Nat):Zk (Xh f k).1 0=true/\ZC 0 (Xh f k).1=((Xh f k).2:Int):=by
 induction k with
 | zero=>exact ⟨rfl,rfl⟩
 | succ k ih=>
  have hr:=(Cx f k).rng
  rcases FK f k with ⟨t,h1,h2,h3,h4⟩ | ⟨h3,h4⟩
  rotate_left
  ·rw [h4]
   generalize Xh f k=p at *
   simp only [YF,YL,ih.1,ih.2,Bool.true_and,Bool.and_eq_true,Bool.not_eq_true',decide_eq_false_iff_not]
   refine ⟨by omega,?_⟩
   unfold ZB
   rw [if_pos (by omega)]
   omega
  rw [h4]
  have:=hr t h1
  generalize Xh f k=p at *
  simp only [YF,YL,ih.1,ih.2,Bool.true_and,Bool.and_eq_true,Bool.not_eq_true',decide_eq_false_iff_not]
  refine ⟨by omega,?_⟩
  unfold ZB
  rw [if_neg (by omega)]
theorem Nrm.num {n:Nat} {c:List Int} (h:Nrm n c):Zy c n=true:=by
 have h1:=(Zr (fun s=>c.getD s 0) n).1
 have hl:=h.len
 unfold Nrm at h
 rw [h] at h1
 simp [Zy,h1,hl]
theorem cM (l:List Int):∀ m:Int,Zk l m=true->∀ d:Int,m<=d->d<ZC m l->d∈l:=by
 induction l with
 | nil=>intro m _ d h1 h2;simp [ZC] at h2;omega
 | cons a r ih=>
  intro m h d h1 h2
  simp only [Zk,Bool.and_eq_true,Bool.not_eq_true',decide_eq_false_iff_not] at h
  obtain ⟨⟨q1,q2⟩,q3⟩:=h
  have e:ZC m (a :: r)=ZC (ZB m a) r:=rfl
  rw [e] at h2
  by_cases hd:d=a
  ·rw [hd];simp
  refine gEf _ (ih _ q3 d ?_ h2)
  unfold ZB
  split <;> omega
theorem cW {C:List Int} {n:Nat} (h:Zy C n=true) {d:Nat} (hd:d<bZ C):∃ s,s<n/\bY C s=d:=by
 obtain ⟨h1,_,h3,h4⟩:=Y2 h
 simp only [Zy,Bool.and_eq_true,decide_eq_true_eq] at h
 have hm:=cM C 0 h.1 (d:Int) (by omega) (by omega)
 obtain ⟨s,hs,e⟩:=List.getElem_of_mem hm
 refine ⟨s,by omega,?_⟩
 unfold bY
 rw [gE2,gE1 hs,Option.getD_some,e,Int.toNat_natCast]
theorem aO {C:List Int} {n:Nat} (h:Zy C n=true) (hn:1<=n):bY C 0=0:=by
 simp only [Zy,Bool.and_eq_true,decide_eq_true_eq] at h
 cases C with
 | nil=>simp at h;omega
 | cons a r=>
  have h1:=h.1
  simp only [Zk,Bool.and_eq_true,Bool.not_eq_true',decide_eq_false_iff_not] at h1
  show a.toNat=0
  omega
def YO (Q:List (List Ar)) (j:Nat):Nat:=((BT Q).2.getD j 0).toNat
theorem Zl {Q:List (List Ar)} (h1:1<=Q.length) (hb:∀ r∈Q,∀ a∈r,0<=a.2/\a.2<(Q.length:Int)):
  0<(BT Q).1.length/\YO Q 0=0/\(∀ j,j<(BT Q).1.length->YO Q j<Q.length)/\(∀ i j,i<(BT Q).1.length->j<(BT Q).1.length->YO Q i=YO Q j->i=j)/\
  (∀ j (a:Ar),j<(BT Q).1.length->a∈Q.getD (YO Q j) []->∃ i:Nat,i<(BT Q).1.length/\(a.1,(i:Int))∈(BT Q).1.getD j []/\YO Q i=a.2.toNat)/\
  (∀ j (a:Ar),j<(BT Q).1.length->a∈(BT Q).1.getD j []->∃ i:Nat,i<(BT Q).1.length/\a.2=(i:Int)/\(a.1,(YO Q i:Int))∈Q.getD (YO Q j) []):=by
 obtain ⟨num,k1,k2,k3,k4,k5,k6⟩:=YU h1 hb
 unfold YO
 generalize BT Q=p at *
 obtain ⟨X,old⟩:=p
 simp only at *
 have hX0:0<X.length:=by rw [k4];exact (List.getElem?_eq_some_iff.1 k5).1
 have ho:∀ j,j<X.length->∃ s:Nat,old[j]?=some (s:Int)/\s<Q.length/\(old.getD j 0).toNat=s/\num[s]?=some (j:Int):=fun j hj=>by
  have hjl:j<old.length:=by omega
  have e:=gE1 hjl
  have h2:=k1.st _ (gE6 hjl)
  have h3:=k3 j _ e
  refine ⟨(old[j]).toNat,by rw [e];congr 1;omega,by omega,by rw [gE2,e];rfl,h3.2⟩
 have hx:∀ (x:Int) (t:Nat),num[t]?=some x->0<=x->x.toNat<X.length/\(old.getD x.toNat 0).toNat=t:=fun x t h h0=>by
  have h2:=k2.inj t x h h0
  have h3:=(List.getElem?_eq_some_iff.1 h2).1
  refine ⟨by omega,?_⟩
  rw [gE2,h2]
  rfl
 refine ⟨hX0,by rw [gE2,k5];rfl,fun j hj=>?_,fun i j hi hj e=>?_,fun j a hj ha=>?_,fun j a hj ha=>?_⟩
 ·obtain ⟨s,h1,h2,h3,h4⟩:=ho j hj
  rw [h3];exact h2
 ·obtain ⟨s,q1,q2,q3,q4⟩:=ho i hi
  obtain ⟨t,p1,p2,p3,p4⟩:=ho j hj
  rw [q3,p3] at e
  subst e
  rw [q4] at p4
  have:=Option.some.inj p4
  omega
 ·obtain ⟨s,q1,q2,q3,q4⟩:=ho j hj
  have hg:=gE1 hj
  obtain ⟨r1,r2⟩:=k6 j _ _ q1 hg
  rw [q3] at ha
  simp only [Int.toNat_natCast] at r1 r2
  obtain ⟨x,hnx,hx0⟩:=r2 a ha
  obtain ⟨p1,p2⟩:=hx x _ hnx hx0
  refine ⟨x.toNat,p1,?_,p2⟩
  rw [gE2,hg,Option.getD_some,r1,C8]
  refine List.mem_map.2 ⟨a,(C8 _ _).2 ha,?_⟩
  rw [gE2,hnx,Option.getD_some]
  congr 1;omega
 obtain ⟨s,q1,q2,q3,q4⟩:=ho j hj
 have hg:=gE1 hj
 obtain ⟨r1,r2⟩:=k6 j _ _ q1 hg
 simp only [Int.toNat_natCast] at r1 r2
 rw [gE2,hg,Option.getD_some,r1,C8] at ha
 obtain ⟨b,hb2,rfl⟩:=List.mem_map.1 ha
 have hb3:=(C8 _ _).1 hb2
 obtain ⟨x,hnx,hx0⟩:=r2 b hb3
 obtain ⟨p1,p2⟩:=hx x _ hnx hx0
 have hbq:0<=b.2:=by
  have hm:Q.getD s []∈Q:=by
   rw [gE2,gE1 q2,Option.getD_some]
   exact gE6 _
  exact (hb _ hm b hb3).1
 refine ⟨x.toNat,p1,?_,?_⟩
 ·rw [gE2,hnx,Option.getD_some];omega
 rw [q3,p2,Int.toNat_of_nonneg hbq];exact hb3
theorem dl {R:List (List Ar)} {C:List Int} {B:List Bool} (hv:Bv R=true) (hC:Zy C R.length=true) (hB:DvL R B):QuX R (BT (qR R C B)).1 (bY C) (YO (qR R C B)):=by
 have hlo:BE R=true:=gEg (gE4 hv).1
 obtain ⟨b1,b2,b3⟩:=bC (B:=B) hlo hC
 have hn1:1<=R.length:=(gE4 hlo).1
 have hm1:1<=bZ C:=by have:=((Y2 hC).2.2.1 0 hn1).1;omega
 obtain ⟨_,_,c3,c4,c5,c6⟩:=Zl (Q:=qR R C B) (by omega) (fun r hr a ha=>by have:=b2 r hr a ha;exact ⟨this.2.2.1,this.2.2.2⟩)
 refine ⟨c4,fun j hj=>?_,fun s j hs hj e b hb hne=>?_,fun j a hj ha=>?_,fun s j hs hj e hd=>?_⟩
 rotate_left 3
 ·have hq:(0,(YO (qR R C B) j:Int))∈(qR R C B).getD (YO (qR R C B) j) []:=(bB hC).2 (.inr ⟨rfl,s,hs,e,(hB.2 s hs).2 hd⟩)
  obtain ⟨i,hi,q1,q2⟩:=c5 j _ hj hq
  have:i=j:=c4 i j hi hj (by rw [q2];simp)
  rw [this] at q1
  exact q1
 ·exact cW hC (by have:=c3 j hj;omega)
 ·have hq:(b.1,(bY C b.2.toNat:Int))∈(qR R C B).getD (YO (qR R C B) j) []:=(bB hC).2 (.inl ⟨s,hs,e,b,hb,by unfold ZD;rw [if_pos (by rw [<- e];exact hne)]⟩)
  obtain ⟨i,hi,q1,q2⟩:=c5 j _ hj hq
  exact ⟨i,hi,q1,by rw [q2];simp⟩
 obtain ⟨i,hi,e,hq⟩:=c6 j a hj ha
 refine ⟨i,hi,e,?_⟩
 rcases (bB hC).1 hq with ⟨s,hs,es,b,hb,eb⟩ | ⟨eq,s,hs,es,hBs⟩
 rotate_left
 ·right
  simp only [Prod.mk.injEq] at eq
  exact ⟨eq.1,c4 i j hi hj (by omega),s,hs,es,(hB.2 s hs).1 hBs⟩
 left
 unfold ZD at eb
 split at eb
 rotate_left
 ·simp at eb
 rename_i hor
 simp only [Option.some.injEq,Prod.mk.injEq] at eb
 have e2:bY C b.2.toNat=YO (qR R C B) i:=by omega
 exact ⟨s,hs,es,b,hb,eb.1,e2,by rw [<- eb.1,<- e2];exact hor⟩
theorem B2 {R:List (List Ar)} (h:BE R=true):Bw (BT R).1<=Bw R:=by
 have hp:UR R:=gE4 h
 have h1:=hp.1
 have hq:=YE (B:=Bw R) hp.2.2.2 R.length 0 _ _ [] R (NumOk.start h1) (NumInj.start h1) (NumSur.start h1) rfl (by simp) (by omega) ⟨by simp,by simp⟩ rfl (fun _ _ _=>rfl) (by simp [Bw])
 exact hq.2.2.2
def C4 (w:Nat):Ob:=.r ⟨155,1,true,[.v (.int .u64 (w:Int))]⟩
theorem O0 (w k:Nat) (hw:w<2 ^ 64) (hk:k<64):FC Tryz.prog 107 [.a (.c (.s 0 1)),.i (k:Int)] [C4 w] (fun r o=>r=.tup []/\o=[C4 (w ||| 2 ^ k)]):=by
 refine A6 Tryz.func107 rfl (by rw [Tryz.ntmps107];simp) ?_
 rw [Tryz.ntmps107]
 simp only [Bf,C4]
 have q0:(k:Int) / 64=0:=by omega
 have q1:(k:Int).tmod 64=(k:Int):=by rw [Int.tmod_eq_emod_of_nonneg (by omega)];omega
 have q3:=KY hk
 obtain ⟨z,hz,q2⟩:∃ z:Nat,2 ^ k=z/\(1:Int)*2 ^ k=(z:Int):=⟨2 ^ k,rfl,by simp⟩
 rw [hz] at q3 ⊢
 have q4:(z:Int)<18446744073709551616:=by omega
 have q5:(w:Int)<18446744073709551616:=by omega
 (refine Ac 10 [(0,0),(1,0),(2,0),(3,0),(4,1),(5,0),(6,0),(7,0),(8,0),(9,0),(10,2)] (by kernel_rfl) (by kernel_rfl) (by intro c st h;simp [Ae,AF,VT] at h) ?_)
 (refine Wq (an @q0 (an @q1 (an @q2 (an @q4 @q5)))) ?_;repeat clear hK K)
 refine H9 ?_
 refine WH Tryz.results107 ?_
 rfl
theorem LQ (v w:Nat) (hv:v<2 ^ 64) (hw:w<2 ^ 64):FC Tryz.prog 108 [.a (.c (.s 0 1)),.a (.c (.s 1 1))] [C4 v,C4 w] (fun r o=>r=.tup []/\o=[C4 (v ||| w),C4 w]):=by
 refine A6 Tryz.func108 rfl (by rw [Tryz.ntmps108];simp) ?_
 rw [Tryz.ntmps108]
 simp only [Bf,C4]
 (refine Wt ?_;(repeat clear hK K);repeat refine kq fun K hK=>?_)
 refine A8 (fun k:Nat=>{ tm:=[(0,.a (.c (.s 0 1))),(1,.a (.c (.s 1 1))),(6,.i 1),(7,.i k)],hp:=[C4 (if k=0 then v else v ||| w),C4 w],n:=21,pin:=2 }) (fun k=>k<=1) (fun k=>1 - k) 0 ?_ ?_ ?_
 ·omega
 ·simp only [if_true,C4]
  exact WE
 rintro k hk K hK
 have q1:(v:Int)<18446744073709551616:=by omega
 have d0:decide ((0:Int)<1)=true:=by decide
 have d1:decide ((1:Int)<1)=false:=by decide
 have q2:(w:Int)<18446744073709551616:=by omega
 by_cases h0:k=0
 rotate_left
 ·have hk1:k=1:=by omega
  subst hk1
  simp only [show ¬ (1:Nat)=0 from by omega,if_false,C4,Int.natCast_one]
  (refine Wu @d1 ?_;(repeat clear hK K);repeat refine kq fun K hK=>?_)
  refine WC ?_
  (refine Df ?_;simp only [Ae,AF,reduceIte,Nat.reduceEqDiff])
  exact M6 Tryz.results108
 subst h0
 simp only [if_true,C4,Int.natCast_zero]
 (refine Wu @d0 ?_;(repeat clear hK K);repeat refine kq fun K hK=>?_)
 refine WB ?_
 (refine Wt ?_;(repeat clear hK K);repeat refine kq fun K hK=>?_)
 (refine Ac 10 [(0,0),(1,0),(2,0),(3,1),(4,0),(5,0),(6,0),(7,1),(8,0),(9,0),(10,2)] (by kernel_rfl) (by kernel_rfl) (by intro c st h;simp [Ae,AF,VT] at h) ?_)
 (refine Wq (an @q1 @q2) ?_;repeat clear hK K)
 (refine Wt ?_;(repeat clear hK K);repeat refine kq fun K hK=>?_)
 refine WD ?_
 refine hK _ 1 (by omega) (by omega) ?_
 simp only [show ¬ (1:Nat)=0 from by omega,if_false,C4]
 exact WE
theorem UZ (w:Nat) (hw:w<2 ^ 64):FC Tryz.prog 136 [.a (.c (.v (.int .u64 (w:Int))))] [] (fun r o=>o=[]/\r=.i (Lib.ctz 64 w)):=by
 have h:=(UO [.a (.c (.v (.int .u64 (w:Int))))] (.i (Lib.ctz 64 w)) (by simp [UN];omega)).2.2
 exact h
set_option maxHeartbeats 1000000 in
theorem St (w:Nat) (hw:w<2 ^ 64):FC Tryz.prog 110 [.a (.c (.s 0 1))] [C4 w] (fun r o=>r=.a (.c (.s 1 (AQ w).length))/\o=[C4 w,AA (AQ w)]):=by
 refine A6 Tryz.func110 rfl (by rw [Tryz.ntmps110];simp) ?_
 rw [Tryz.ntmps110]
 simp only [Bf,C4]
 (refine Wt ?_;(repeat clear hK K);repeat refine kq fun K hK=>?_)
 refine Au (CT 3 3 1 ?_) ?_
 ·simp only [go_sem]
 refine A8 (fun k:Nat=>{ tm:=[(3,.a (.c (.s 1 (if k=0 then 0 else (AQ w).length)))),(6,.a (.c (.s 0 1))),(7,.i 1),(8,.i k)],hp:=[C4 w,AA (if k=0 then [] else AQ w)],n:=29,pin:=1 }) (fun k=>k<=1) (fun k=>1 - k) 0 ?_ ?_ ?_
 ·omega
 ·simp only [if_true,C4,AA,A7,List.map_nil]
  exact WE
 rintro k hk K hK
 have q2:(w:Int)<18446744073709551616:=by omega
 have d0:decide ((0:Int)<1)=true:=by decide
 have d1:decide ((1:Int)<1)=false:=by decide
 by_cases h0:k=0
 rotate_left
 ·have hk1:k=1:=by omega
  subst hk1
  simp only [show ¬ (1:Nat)=0 from by omega,if_false,C4,Int.natCast_one,AA]
  (refine Wu @d1 ?_;(repeat clear hK K);repeat refine kq fun K hK=>?_)
  refine WC ?_
  (refine Wx ?_;repeat clear hK K)
  (refine Wt ?_;(repeat clear hK K);repeat refine kq fun K hK=>?_)
  ((try refine Av ?_);(try simp only [Ae,AF]);refine B6 (A9 [0,1] rfl rfl) ?_;(try simp only [List.set_nil,List.take_nil,List.take_zero,List.map_append,go_sem]);((try refine Av ?_);(try refine Aa ?_);(try simp only [Ae,AF]);refine Bj (by first | exact .inl rfl | exact .inr rfl) rfl ?_;simp only [VU,Dy,Du,DL,Tryz.results110,go_sem,true_and,and_true,Af,AA]))
 subst h0
 simp only [if_true,C4,Int.natCast_zero,AA]
 (refine Wu @d0 ?_;(repeat clear hK K);repeat refine kq fun K hK=>?_)
 refine WB ?_
 (refine Wt ?_;(repeat clear hK K);repeat refine kq fun K hK=>?_)
 refine A8 (fun x:List Int × Nat=>{ tm:=[(3,.a (.c (.s 1 x.1.length))),(4,.i 0),(5,.a (.c (.v (.int .u64 (x.2:Int))))),(6,.a (.c (.s 0 1))),(7,.i 1),(8,.i 0)],hp:=[C4 w,AA x.1],n:=29,pin:=1 }) (fun x=>x.1++AQ x.2=AQ w/\x.2<2 ^ 64) (fun x=>x.2) ([],w) ?_ ?_ ?_
 ·exact ⟨rfl,hw⟩
 ·simp only [C4,AA,A7,List.map_nil,List.length_nil]
  exact WE
 rintro ⟨L,z⟩ ⟨hL,hz⟩ K hK
 simp only at hL hz
 simp only [C4,AA]
 have hLl:L.length<=64:=by have h1:=CP w;rw [<- hL,List.length_append] at h1;omega
 by_cases hz0:z=0
 ·subst hz0
  rw [LP,List.append_nil] at hL
  subst hL
  have d2:(((0:Nat):Int) != 0)=false:=rfl
  (refine Wt ?_;(repeat clear hK K);repeat refine kq fun K hK=>?_)
  simp only [d2]
  refine WC ?_
  (refine Wx ?_;repeat clear hK K)
  (refine Wt ?_;(repeat clear hK K);repeat refine kq fun K hK=>?_)
  refine WD ?_
  refine hK _ 1 (by omega) (by omega) ?_
  simp only [show ¬ (1:Nat)=0 from by omega,if_false,C4,AA]
  exact WE
 obtain ⟨h1,h2,h3⟩:=NW (w:=z) (by omega) hz
 have d1:((z:Int) != 0)=true:=by simpa using hz0
 have q3:(z:Int)<18446744073709551616:=by omega
 have q4:((z:Int) - 1).toNat=z - 1:=by omega
 rw [h3] at hL
 have hnz:(z &&& (z - 1))<2 ^ 64:=by omega
 (refine Wt ?_;(repeat clear hK K);repeat refine kq fun K hK=>?_)
 simp only [d1]
 refine WB ?_
 (refine Wt ?_;(repeat clear hK K);repeat refine kq fun K hK=>?_)
 (refine Wy (UZ z hz) ?_;intro K1 hK1)
 rintro _ _ ⟨rfl,rfl⟩
 (refine Wz ?_;clear hK1 K1)
 (refine Wu (an @List.set_cons_zero.{0} (an @List.set_cons_succ.{0} (an @List.take_succ_cons.{0} (an @List.take_zero.{0} (an @List.drop_zero.{0} (an @List.length_take.{0} (an @List.length_drop.{0} (an @List.length_append.{0} (an @A4 (an @Az (an @AN (an @Bm (an @A5 (an @AU (an @AE (an @B1 (an @AG (an @AM (an @q4 @q3))))))))))))))))))) ?_;(repeat clear hK K);repeat refine kq fun K hK=>?_)
 refine WD ?_
 refine hK _ (L++[(Lib.ctz 64 z:Int)],z &&& (z - 1)) ⟨by rw [<- hL];simp,hnz⟩ h2 ?_
 refine Le.trans (A9 [0,3] rfl rfl) ?_
 (try simp only [List.set_nil,List.take_nil,List.take_zero,List.map_append,go_sem])
 (try simp only [Af])
 simp only [C4,AA,List.take_length,Int.zero_mul,Int.zero_add]
 exact WE
theorem H2 {P:Program} {c:Code} {st:ST} {Q:Exit->ST->Prop} (F:List Ob->Prop) (hF:F st.hp) (h:∀ G,F G->AW P c { st with hp:=G } Q):AW P c st Q:=h _ hF
theorem BC {P:Program} {ops:Array Oper} {l:List Oper} {st:ST} {K:ST->Prop} (F:List Ob->Prop) (hF:F st.hp) (h:∀ G,F G->VQ P ops l { st with hp:=G } K):VQ P ops l st K:=h _ hF
def Pre (H G:List Ob):Prop:=H.length<=G.length/\∀ i,i<H.length->G[i]?=H[i]?
theorem Pre.refl (H:List Ob):Pre H H:=⟨Nat.le_refl _,fun _ _=>rfl⟩
theorem Pre.trans {A B C:List Ob} (h:Pre A B) (k:Pre B C):Pre A C:=⟨Nat.le_trans h.1 k.1,fun i hi=>(k.2 i (Nat.lt_of_lt_of_le hi h.1)).trans (h.2 i hi)⟩
theorem Pre.push (H:List Ob) (y:Ob):Pre H (H++[y]):=⟨by simp,fun i hi=>gEa hi⟩
theorem Pre.at {H G:List Ob} (h:Pre H G) {i:Nat} {y:Ob} (hx:H[i]?=some y):G[i]?=some y:=by
 rw [h.2 i (List.getElem?_eq_some_iff.1 hx).1];exact hx
theorem Pre.set {H G:List Ob} (h:Pre H G) {i:Nat} (hi:H.length<=i) (y:Ob):Pre H (G.set i y):=⟨by rw [List.length_set];exact h.1,fun j hj=>by rw [gE5 (by omega)];exact h.2 j hj⟩
theorem Br {H:List Ob} {i:Nat} {y:Ob} (h:H[i]?=some y):i<H.length:=(List.getElem?_eq_some_iff.1 h).1
theorem FN {H:List Ob} {i:Nat} {y:Ob} (h:H[i]?=some y):H.set i y=H:=by
 refine List.ext_getElem? fun j=>?_
 by_cases e:i=j
 ·subst e;rw [gEc (Br h),h]
 rw [gE5 e]
theorem Bp (H:List Ob) (y:Ob):(H++[y])[H.length]?=some y:=by simp
theorem Ul {H:List Ob} (h:H.all Cd=true) {i:Nat} {y:Ob} (hx:H[i]?=some y):Cd y=true:=List.all_eq_true.1 h _ (gE9 hx)
theorem Bi {H:List Ob} (h:H.all Cd=true) {y:Ob} (hx:Cd y=true):(H++[y]).all Cd=true:=by simp [List.all_append,h,hx]
theorem C2 {H:List Ob} (h:H.all Cd=true) {y:Ob} (hx:Cd y=true) (i:Nat):(H.set i y).all Cd=true:=by
 rw [List.all_eq_true]
 intro y hy
 rcases List.mem_or_eq_of_mem_set hy with h2 | h2
 ·exact List.all_eq_true.1 h _ h2
 rw [h2];exact hx
theorem Hz {H:List Ob} (h:H.all Cd=true):∀ (i:Nat) (o:Ob),H[i]?=some o->Cd o=true:=fun _ _ hx=>Ul h hx
section
variable {o : Oper} {st : ST} {K : ST -> Prop}
theorem D0 {H:List Ob} {i:Nat} {y z:Ob} (h:H[i]?=some y):H.getD i z=y:=by rw [gE2,h];rfl
theorem HA (w:Nat) (ρ:List Nat):(C4 w).ren ρ=C4 w:=rfl
theorem JA (w:Nat) (f:Nat->Nat):(C4 w).up f=C4 w:=rfl
theorem Ej {x y:Operand} {ts:Array TypeId} {a b v w:Nat} (hd:VJ o st.n=true) (ho:o.op=.call { callee:=.value (.func 108),args:=#[x,y],argTypes:=ts }) (hx:st.ev x=.a (.c (.s a 1))) (hy:st.ev y=.a (.c (.s b 1))) (ha:st.hp[a]?=some (C4 v)) (hb:st.hp[b]?=some (C4 w)) (hne:a ≠ b) (hv:v<2 ^ 64) (hw:w<2 ^ 64)
  (hnb:Fi [a,b] st.tm=st.tm) (h:K ({ st with hp:=st.hp.set a (C4 (v ||| w)) }.put o.dst (.tup []))):Stp Tryz.prog o st K:=by
 have i1:idx [a,b] a 0=some 0:=by simp [idx]
 have i2:idx [a,b] b 0=some 1:=by simp [idx,hne]
 refine AH (ids:=[]) [a,b] (LQ v w hv hw) hd ho rfl (by kernel_rfl) (by simp [Ba,hne]) (by simp [Br ha,Br hb]) ?_ ?_ ?_ ?_
 ·simp [hx,hy,Em,AV.ren,A0.ren,C.ren,i1,i2]
 ·simp only [VS,List.map_cons,List.map_nil,D0 ha,D0 hb,HA]
 ·rintro r outs ⟨rfl,rfl⟩;rfl
 rintro r outs ⟨rfl,rfl⟩
 have e:st.back [a,b] [C4 (v ||| w),C4 w]={ st with hp:=st.hp.set a (C4 (v ||| w)) }:=by
  unfold ST.back
  rw [hnb]
  simp only [List.map_cons,List.map_nil,JA,Cb,List.append_nil]
  rw [FN (by rw [gE5 hne];exact hb)]
 rw [e];exact h
theorem LS {x y:Operand} {ts:Array TypeId} {a v k:Nat} (hd:VJ o st.n=true) (ho:o.op=.call { callee:=.value (.func 107),args:=#[x,y],argTypes:=ts }) (hx:st.ev x=.a (.c (.s a 1))) (hy:st.ev y=.i (k:Int)) (ha:st.hp[a]?=some (C4 v)) (hv:v<2 ^ 64) (hk:k<64)
  (hnb:Fi [a] st.tm=st.tm) (h:K ({ st with hp:=st.hp.set a (C4 (v ||| 2 ^ k)) }.put o.dst (.tup []))):Stp Tryz.prog o st K:=by
 have i1:idx [a] a 0=some 0:=by simp [idx]
 refine AH (ids:=[]) [a] (O0 v k hv hk) hd ho rfl (by kernel_rfl) rfl (by simp [Br ha]) ?_ ?_ ?_ ?_
 ·simp [hx,hy,Em,AV.ren,A0.ren,C.ren,i1,AV.i]
 ·simp only [VS,List.map_cons,List.map_nil,D0 ha,HA]
 ·rintro r outs ⟨rfl,rfl⟩;rfl
 rintro r outs ⟨rfl,rfl⟩
 have e:st.back [a] [C4 (v ||| 2 ^ k)]={ st with hp:=st.hp.set a (C4 (v ||| 2 ^ k)) }:=by
  unfold ST.back
  rw [hnb]
  simp only [List.map_cons,List.map_nil,JA,Cb,List.append_nil]
 rw [e];exact h
theorem L1 {x:Operand} {ts:Array TypeId} {a w:Nat} (hd:VJ o st.n=true) (ho:o.op=.call { callee:=.value (.func 110),args:=#[x],argTypes:=ts }) (hx:st.ev x=.a (.c (.s a 1))) (ha:st.hp[a]?=some (C4 w)) (hw:w<2 ^ 64)
  (hnb:Fi [a] st.tm=st.tm) (h:K ({ st with hp:=st.hp++[AA (AQ w)] }.put o.dst (.a (.c (.s st.hp.length (AQ w).length))))):Stp Tryz.prog o st K:=by
 have i1:idx [a] a 0=some 0:=by simp [idx]
 refine AH (ids:=[]) [a] (St w hw) hd ho rfl (by kernel_rfl) rfl (by simp [Br ha]) ?_ ?_ ?_ ?_
 ·simp [hx,Em,AV.ren,A0.ren,C.ren,i1]
 ·simp only [VS,List.map_cons,List.map_nil,D0 ha,HA]
 ·rintro r outs ⟨rfl,rfl⟩;rfl
 rintro r outs ⟨rfl,rfl⟩
 have e:st.back [a] [C4 w,AA (AQ w)]={ st with hp:=st.hp++[AA (AQ w)] }:=by
  unfold ST.back
  rw [hnb]
  have e2:(AA (AQ w)).up (VV [a] st.hp.length)=AA (AQ w):=by simp [AA,Ob.up,BQ]
  simp only [List.map_cons,List.map_nil,JA,Cb,e2]
  rw [FN ha]
 rw [e]
 have e3:(AV.a (.c (.s 1 (AQ w).length))).up (VV [a] st.hp.length)=.a (.c (.s st.hp.length (AQ w).length)):=by simp [AV.up,A0.up,C.up,VV]
 rw [e3];exact h
end
def Y4 (V:List (Int × Nat × Nat)):List (Value × C):=V.map fun p=>(.int .i64 p.1,.s p.2.1 1)
theorem Cu (V:List (Int × Nat × Nat)):(Y4 V).length=V.length:=by simp [Y4]
theorem O3 {V:List (Int × Nat × Nat)} {j:Nat} {p:Int × Nat × Nat} (h:V[j]?=some p):(Y4 V)[j]?=some (.int .i64 p.1,.s p.2.1 1):=by simp [Y4,h]
theorem Gu (V:List (Int × Nat × Nat)):(Y4 V).all (fun p=>p.2.pl)=true:=by
 rw [List.all_eq_true]
 intro p hp
 obtain ⟨q,_,rfl⟩:=List.mem_map.1 hp
 rfl
theorem Rl (V:List (Int × Nat × Nat)):Cd (.m (Y4 V))=true:=Gu V
theorem L3 (V:List (Int × Nat × Nat)):Pe (Y4 V)=false:=by
 cases V with
 | nil=>rfl
 | cons p V=>rfl
theorem L4 {e:Int}:∀ {V:List (Int × Nat × Nat)},(∀ p∈V,p.1 ≠ e)->∀ i,BJ .ki (.int .i64 e) (Y4 V) i=some none
 | [],_,_=>rfl
 | p :: V,h,i=>by
  have h1:(e == p.1)=false:=by have:=h p List.mem_cons_self;simp only [beq_eq_false_iff_ne,ne_eq];exact fun x=>this x.symm
  simp only [Y4,List.map_cons,BJ,BZ,h1]
  exact L4 (fun q hq=>h q (gEf _ hq)) (i+1)
theorem FO {e:Int}:∀ {V:List (Int × Nat × Nat)},(V.map (·.1)).Nodup->∀ {p},p∈V->p.1=e->∀ i,∃ j,BJ .ki (.int .i64 e) (Y4 V) i=some (some (j,.s p.2.1 1))
 | [],_,_,hp,_,_=>by simp at hp
 | q :: V,hn,p,hp,he,i=>by
  simp only [List.map_cons,List.nodup_cons] at hn
  rcases List.mem_cons.1 hp with rfl | hp
  ·exact ⟨i,by simp [Y4,BJ,BZ,he]⟩
  ·have h1:(e == q.1)=false:=by
    simp only [beq_eq_false_iff_ne,ne_eq]
    intro x
    exact hn.1 (by rw [<- x,<- he];exact List.mem_map.2 ⟨p,hp,rfl⟩)
   simp only [Y4,List.map_cons,BJ,BZ,h1]
   exact FO hn.2 hp he (i+1)
theorem LT (e:Int):Fj .ki (.int .i64 e)=true:=by simp [Fj,BZ]
def SJ (H:List Ob) (mid:Nat) (V:List (Int × Nat × Nat)) (e:Int) (w:Nat) (G:List Ob):Prop:=
 (∃ p∈V,p.1=e/\G=H.set p.2.1 (C4 (p.2.2 ||| w)))\/((∀ p∈V,p.1 ≠ e)/\G=(H++[C4 w]).set mid (.m (Y4 (V++[(e,H.length,w)]))))
set_option maxHeartbeats 1000000 in
theorem Um (H:List Ob) (vb sb mid yid:Nat) (V:List (Int × Nat × Nat)) (e:Int) (w:Nat) (hvb:H[vb]?=some (.r ⟨138,1,false,[.m mid]⟩)) (hsb:H[sb]?=some (.r ⟨3,1,false,[.v (.int .i64 1)]⟩)) (hm:H[mid]?=some (.m (Y4 V))) (hy:H[yid]?=some (C4 w))
  (hnd:(V.map (·.1)).Nodup) (hV:∀ p∈V,H[p.2.1]?=some (C4 p.2.2)/\p.2.2<2 ^ 64/\p.2.1 ≠ yid) (hw:w<2 ^ 64) (hok:H.all Cd=true):
  FC Tryz.prog 109 [.i e,.a (.c (.s yid 1)),.a (.c (.p vb 0)),.a (.c (.p sb 0))] H (fun r o=>r=.tup []/\SJ H mid V e w o/\o.all Cd=true):=by
 refine A6 Tryz.func109 rfl (by rw [Tryz.ntmps109];simp) ?_
 rw [Tryz.ntmps109]
 simp only [Bf]
 have hpl:=Gu V
 have hml:=Br hm
 have hyl:=Br hy
 by_cases hex:∃ p∈V,p.1=e
 ·obtain ⟨p,hp,he⟩:=hex
  obtain ⟨j,hf⟩:=FO hnd hp he 0
  obtain ⟨hp1,hp2,hp3⟩:=hV p hp
  (refine Wu @hvb ?_;(repeat clear hK K);repeat refine kq fun K hK=>?_)
  (refine Ai rfl ?_;intro K1 hK1;refine Ci (id:=mid) (kv:=Y4 V) (zv:=.slice none 0 0) Tryz.underlying138 (EQ Tryz.underlying3) rfl rfl rfl (by simp only [go_sem,hvb]) hm hpl (by simp only [go_sem,EP]) (LT e) hf ?_;simp only [go_sem,XX];refine hK1 _ ?_;clear hK1 K1)
  (refine Ai rfl ?_;intro K1 hK1;refine J4 rfl rfl Tryz.underlying135 (.inl rfl) (.inr ⟨p.2.1,1,by simp only [go_sem],?_⟩);intro b hb;have hb2:b=false:=(by cases b with | false=>rfl | true=>exact absurd (hb rfl) (by omega));subst hb2;simp only [go_sem,if_true];refine hK1 _ ?_;clear hK1 K1)
  (refine Wt ?_;(repeat clear hK K);repeat refine kq fun K hK=>?_)
  refine WC ?_
  (refine Wu @hvb ?_;(repeat clear hK K);repeat refine kq fun K hK=>?_)
  (refine Ai rfl ?_;intro K1 hK1;refine Ci (id:=mid) (kv:=Y4 V) (zv:=.slice none 0 0) Tryz.underlying138 (EQ Tryz.underlying3) rfl rfl rfl (by simp only [go_sem,hvb]) hm hpl (by simp only [go_sem,EP]) (LT e) hf ?_;simp only [go_sem,XX];refine hK1 _ ?_;clear hK1 K1)
  (refine Wt ?_;(repeat clear hK K);repeat refine kq fun K hK=>?_)
  (refine Ai rfl ?_;intro K1 hK1;refine Ej (a:=p.2.1) (b:=yid) (v:=p.2.2) (w:=w) rfl rfl (by simp only [go_sem]) (by simp only [go_sem]) hp1 hy hp3 hp2 hw (by simp [Fi,AV.nb,A0.nb,C.nb]) ?_;simp only [go_sem];refine hK1 _ ?_;clear hK1 K1)
  refine WH Tryz.results109 ?_
  exact ⟨.inl ⟨p,hp,he,rfl⟩,C2 hok rfl _⟩
 have hno:∀ p∈V,p.1 ≠ e:=fun p hp he=>hex ⟨p,hp,he⟩
 have hf:=L4 hno 0
 obtain ⟨j,hf2⟩:=FO (V:=V++[(e,H.length,w)]) (by rw [List.map_append,List.nodup_append];exact ⟨hnd,by simp,fun a ha b hb=>by
  obtain ⟨p,hp,rfl⟩:=List.mem_map.1 ha
  simp only [List.map_cons,List.map_nil,List.mem_singleton] at hb
  rw [hb];exact hno p hp⟩) (List.mem_append_right _ List.mem_cons_self) rfl 0
 have hkv:Y4 V++[(Value.int .i64 e,C.s H.length 1)]=Y4 (V++[(e,H.length,w)]):=by simp [Y4]
 have hpl2:=Gu (V++[(e,H.length,w)])
 (refine Wu @hvb ?_;(repeat clear hK K);repeat refine kq fun K hK=>?_)
 (refine Ai rfl ?_;intro K1 hK1;refine Ci (id:=mid) (kv:=Y4 V) (zv:=.slice none 0 0) Tryz.underlying138 (EQ Tryz.underlying3) rfl rfl rfl (by simp only [go_sem,hvb]) hm hpl (by simp only [go_sem,EP]) (LT e) hf ?_;simp only [go_sem,XX];refine hK1 _ ?_;clear hK1 K1)
 (refine Ai rfl ?_;intro K1 hK1;refine Pd rfl rfl Tryz.underlying135 (.inl rfl) (b:=true) (.inl ⟨rfl,by simp only [go_sem]⟩) ?_;simp only [go_sem,if_true];refine hK1 _ ?_;clear hK1 K1)
 (refine Wt ?_;(repeat clear hK K);repeat refine kq fun K hK=>?_)
 refine WB ?_
 (refine AJ [] (.m 1 0 0 (.m 0 1 4 (.m 2 1 3 (.a 3 (.a 4 .e))))) (by kernel_rfl) (by kernel_rfl) (by intro c st h;simp [Ae,AF,VT] at h) ?_)
 (refine Ww (an @hvb @hsb) ?_;repeat clear hK K)
 (refine Wj rfl rfl ?_;intro K1 hK1;refine Bx rfl ?_;simp only [go_sem];(first | refine hK1 _ ?_ | refine AD (hK1 _ ?_));clear hK1 K1)
 have hrep:(List.replicate (Int.toNat 1) (C.v (.int .u64 0)))=[C.v (.int .u64 ((0:Nat):Int))]:=rfl
 simp only [hrep]
 (refine Wk rfl rfl rfl rfl ?_;intro K1 hK1;refine GY (id:=mid) (kv:=Y4 V) (c:=.s H.length 1) Tryz.underlying138 (EQ Tryz.underlying3) rfl rfl (by simp only [go_sem]) ((Pre.push _ _).at hm) hpl (by simp only [go_sem,EP]) (LT e) (by simp only [go_sem];rfl) rfl hf ?_;simp only [go_sem,hkv];refine hK1 _ ?_;clear hK1 K1)
 refine CL ⟨by simp,by simp,?_⟩
 (try simp only [Ae,AF])
 refine hK _ ?_
 clear hK K
 have hvm:mid ≠ vb:=by rintro rfl;rw [hm] at hvb;cases hvb
 have hym:mid ≠ yid:=by rintro rfl;rw [hm] at hy;cases hy
 have hnm:mid ≠ H.length:=by omega
 refine H2 (fun G=>G=(H++[C4 0]).set mid (.m (Y4 (V++[(e,H.length,w)])))) rfl ?_
 intro G hG
 simp only
 have g1:G[vb]?=some (.r ⟨138,1,false,[.m mid]⟩):=by rw [hG,gE5 hvm];exact (Pre.push _ _).at hvb
 have g2:G[mid]?=some (.m (Y4 (V++[(e,H.length,w)]))):=by rw [hG,gEc (by simp;omega)]
 have g3:G[yid]?=some (C4 w):=by rw [hG,gE5 hym];exact (Pre.push _ _).at hy
 have g4:G[H.length]?=some (C4 0):=by rw [hG,gE5 hnm];exact Bp _ _
 have g5:G.all Cd=true:=by rw [hG];exact C2 (Bi hok rfl) (Rl _) _
 have hend:G.set H.length (C4 (0 ||| w))=(H++[C4 w]).set mid (.m (Y4 (V++[(e,H.length,w)]))):=by
  rw [hG,Nat.zero_or,List.set_comm _ _ hnm]
  congr 1
  rw [List.set_append_right _ _ (Nat.le_refl _)];simp
 clear hG
 (refine Wu @g1 ?_;(repeat clear hK K);repeat refine kq fun K hK=>?_)
 (refine Ai rfl ?_;intro K1 hK1;refine Ci (id:=mid) (kv:=Y4 (V++[(e,H.length,w)])) (zv:=.slice none 0 0) Tryz.underlying138 (EQ Tryz.underlying3) rfl rfl rfl (by simp only [go_sem,g1]) g2 hpl2 (by simp only [go_sem,EP]) (LT e) hf2 ?_;simp only [go_sem,XX];refine hK1 _ ?_;clear hK1 K1)
 (refine Wt ?_;(repeat clear hK K);repeat refine kq fun K hK=>?_)
 (refine Ai rfl ?_;intro K1 hK1;refine Ej (a:=H.length) (b:=yid) (v:=0) (w:=w) rfl rfl (by simp only [go_sem]) (by simp only [go_sem]) g4 g3 (by omega) (by omega) hw (by simp [Fi,AV.nb,A0.nb,C.nb]) ?_;simp only [go_sem];refine hK1 _ ?_;clear hK1 K1)
 refine WH Tryz.results109 ?_
 rw [hend]
 exact ⟨.inr ⟨hno,rfl⟩,C2 (Bi hok rfl) (Rl _) _⟩
def Y5 (f:Nat->Nat) (n c:Nat):List Nat:=(List.range n).filter fun s=>f s == c
def Y6 (f:Nat->Nat) (n:Nat):List (List Int):=(List.range n).map fun c=>(Y5 f n c).map Int.ofNat
theorem DH {f:Nat->Nat} {n c s:Nat}:s∈Y5 f n c↔s<n/\f s=c:=by simp [Y5]
theorem O4 (f:Nat->Nat) (n c:Nat):(Y5 f n c).length<=n:=by
 have:=List.length_filter_le (fun s=>f s == c) (List.range n)
 rwa [List.length_range] at this
theorem JB (f:Nat->Nat) (n:Nat):(Y6 f n).length=n:=by simp [Y6]
theorem O5 {f:Nat->Nat} {n c:Nat} (h:c<n):(Y6 f n)[c]?=some ((Y5 f n c).map Int.ofNat):=by simp [Y6,h]
section
variable {X : List (List Ar)} {D cl : List Int}
theorem O6 (hv:Bv X=true) (h:CpOk X D) {v i:Nat} (hs:v<X.length):RT X cl (XG D v) i↔RT X cl v i:=by
 obtain ⟨_,_,p3,p4,_⟩:=BN hv h hs
 constructor
 ·rintro ⟨u,hu,h1,h2⟩;exact ⟨u,hu,p3.trans h1,h2⟩
 rintro ⟨u,hu,h1,h2⟩;exact ⟨u,hu,p4.trans h1,h2⟩
theorem LU (hv:Bv X=true) (h:CpOk X D) {v i:Nat} {e:Int} (hs:v<X.length):RV X cl (XG D v) e i↔RV X cl v e i:=by
 obtain ⟨_,_,p3,p4,_⟩:=BN hv h hs
 constructor
 ·rintro ⟨h0,u,hu,h1,h2⟩;exact ⟨h0,u,hu,p3.trans h1,h2⟩
 rintro ⟨h0,u,hu,h1,h2⟩;exact ⟨h0,u,hu,p4.trans h1,h2⟩
def gT (X:List (List Ar)) (D cl:List Int) (c:Nat) (row:List Ar) (i:Nat):Prop:=∃ a∈row,a.1=0/\XG D a.2.toNat ≠ c/\RT X cl a.2.toNat i
def Y7 (X:List (List Ar)) (D cl:List Int) (c:Nat) (l:List Nat) (i:Nat):Prop:=∃ s∈l,cl.getD s 0=(i:Int)\/gT X D cl c (X.getD s []) i
def gV (X:List (List Ar)) (D cl:List Int) (c:Nat) (row:List Ar) (e:Int) (i:Nat):Prop:=∃ a∈row,(a.1 ≠ 0/\a.1=e/\RT X cl a.2.toNat i)\/(a.1=0/\XG D a.2.toNat ≠ c/\RV X cl a.2.toNat e i)
def Y8 (X:List (List Ar)) (D cl:List Int) (c:Nat) (l:List Nat) (e:Int) (i:Nat):Prop:=∃ s∈l,gV X D cl c (X.getD s []) e i
theorem L5 (hv:Bv X=true) {c t:Nat} (he:(c,t)∈Xy (XG D) X X.length):∃ s,s<X.length/\XG D s=c/\∃ a∈X.getD s [],a.1=0/\XG D a.2.toNat ≠ c/\XG D a.2.toNat=t:=by
 obtain ⟨s,hs,a,ha,h0,hne,e⟩:=Fb.1 he
 cases e
 exact ⟨s,hs,rfl,a,ha,h0,fun h=>hne h.symm,rfl⟩
theorem Su (hv:Bv X=true) (h:CpOk X D) {c:Nat} (hc:c<X.length) (hf:XG D c=c) (i:Nat):Y7 X D cl c (Y5 (XG D) X.length c) i↔RT X cl c i:=by
 have hlo:BE X=true:=gEg (gE4 hv).1
 constructor
 rotate_left
 ·rintro ⟨u,hu,h1,h2⟩
  rcases Js hv h hc h1 with e | ⟨t,he,h3⟩
  ·exact ⟨u,DH.2 ⟨hu,by rw [<- e,hf]⟩,.inl h2⟩
  rw [hf] at he
  obtain ⟨s,hs,hsc,a,ha,h0,hne,hat⟩:=L5 hv he
  have hb:=EJ hv hs ha
  refine ⟨s,DH.2 ⟨hs,hsc⟩,.inr ⟨a,ha,h0,hne,(O6 hv h hb.2.2.2).1 ?_⟩⟩
  rw [hat];exact ⟨u,hu,h3,h2⟩
 rintro ⟨s,hs,h1⟩
 obtain ⟨hsl,hsc⟩:=DH.1 hs
 have hcs:Rc (WP true X) c s:=by rw [<- hsc];exact (BN hv h hsl).2.2.2.1
 rcases h1 with h1 | ⟨a,ha,h0,_,u,hu,h3,h4⟩
 ·exact ⟨s,hsl,hcs,h1⟩
 have hb:=EJ hv hsl ha
 have hadj:a.2.toNat∈WP true X s:=by
  rw [Gs hv]
  have:((0:Int),((a.2.toNat:Nat):Int))=a:=by
   rcases a with ⟨x,y⟩
   simp only at h0 hb ⊢
   rw [h0];congr 1;omega
  rw [this];exact ha
 exact ⟨u,hu,(hcs.trans (.one hadj)).trans h3,h4⟩
theorem Sv (hv:Bv X=true) (h:CpOk X D) {c:Nat} (hc:c<X.length) (hf:XG D c=c) (e:Int) (i:Nat):Y8 X D cl c (Y5 (XG D) X.length c) e i↔RV X cl c e i:=by
 have hlo:BE X=true:=gEg (gE4 hv).1
 constructor
 rotate_left
 ·rintro ⟨hn,u,hu,h1,a,ha,h2,h3⟩
  rcases Js hv h hc h1 with ee | ⟨t,he,h4⟩
  ·exact ⟨u,DH.2 ⟨hu,by rw [<- ee,hf]⟩,a,ha,.inl ⟨by rw [h2];exact hn,h2,h3⟩⟩
  rw [hf] at he
  obtain ⟨s,hs,hsc,b,hb1,h0,hne,hat⟩:=L5 hv he
  have hb:=EJ hv hs hb1
  refine ⟨s,DH.2 ⟨hs,hsc⟩,b,hb1,.inr ⟨h0,hne,(LU hv h hb.2.2.2).1 ?_⟩⟩
  rw [hat];exact ⟨hn,u,hu,h4,a,ha,h2,h3⟩
 rintro ⟨s,hs,a,ha,h1⟩
 obtain ⟨hsl,hsc⟩:=DH.1 hs
 have hcs:Rc (WP true X) c s:=by rw [<- hsc];exact (BN hv h hsl).2.2.2.1
 rcases h1 with ⟨h0,h1,h2⟩ | ⟨h0,_,hn,u,hu,h3,h4⟩
 ·exact ⟨by rw [<- h1];exact h0,s,hsl,hcs,a,ha,h1,h2⟩
 have hb:=EJ hv hsl ha
 have hadj:a.2.toNat∈WP true X s:=by
  rw [Gs hv]
  have:((0:Int),((a.2.toNat:Nat):Int))=a:=by
   rcases a with ⟨x,y⟩
   simp only at h0 hb ⊢
   rw [h0];congr 1;omega
  rw [this];exact ha
 exact ⟨hn,u,hu,(hcs.trans (.one hadj)).trans h3,h4⟩
end
theorem V0 {X:List (List Ar)} {cl:List Int} (hc:Nrm X.length cl) (hn:X.length<=64) {v:Nat} (hv:v<X.length):∃ i,i<64/\RT X cl v i:=by
 have hcl:=hc.len
 have hm:cl.getD v 0∈cl:=by rw [gE2,gE1 (by omega)];exact gE6 _
 have:=hc.rng _ hm
 exact ⟨(cl.getD v 0).toNat,by omega,v,hv,.refl _,by omega⟩
theorem WS.or {v w:Nat} {p q r:Nat->Prop} (hv:WS v p) (hw:WS w q) (h:∀ i,i<64->(r i↔p i\/q i)):WS (v ||| w) r:=
 ⟨Uj hv.1 hw.1,fun i hi=>by rw [Sr,hv.2 i hi,hw.2 i hi,h i hi]⟩
theorem WS.pow {k:Nat} (hk:k<64):WS (2 ^ k) (fun i=>k=i):=⟨KY hk,fun i _=>Uk⟩
theorem WS.zero {p:Nat->Prop} (h:∀ i,¬ p i):WS 0 p:=⟨by omega,fun i _=>by simp [h i]⟩
theorem WS.iff {w:Nat} {p q:Nat->Prop} (h:WS w p) (e:∀ i,i<64->(p i↔q i)):WS w q:=⟨h.1,fun i hi=>by rw [h.2 i hi,e i hi]⟩
theorem Qh (X:List (List Ar)) (D cl:List Int) (c:Nat) (l:List Nat) (i:Nat):¬ Y7 X D cl c (l.take 0) i:=by rintro ⟨s,hs,_⟩;simp at hs
theorem Sw (X:List (List Ar)) (D cl:List Int) (c:Nat) (l:List Ar) (i:Nat):¬ gT X D cl c (l.take 0) i:=by rintro ⟨s,hs,_⟩;simp at hs
theorem Qi {X:List (List Ar)} {D cl:List Int} {c:Nat} {l:List Nat} {k:Nat} (h:k<l.length) (i:Nat):Y7 X D cl c (l.take (k+1)) i↔Y7 X D cl c (l.take k) i\/cl.getD l[k] 0=(i:Int)\/gT X D cl c (X.getD l[k] []) i:=by
 unfold Y7
 rw [gE8 h]
 simp only [List.mem_append,List.mem_singleton]
 constructor
 ·rintro ⟨s,hs | hs,h1⟩
  ·exact .inl ⟨s,hs,h1⟩
  subst hs;exact .inr h1
 rintro (⟨s,hs,h1⟩ | h1)
 ·exact ⟨s,.inl hs,h1⟩
 exact ⟨_,.inr rfl,h1⟩
theorem Sx {X:List (List Ar)} {D cl:List Int} {c:Nat} {row:List Ar} {k:Nat} (h:k<row.length) (i:Nat):gT X D cl c (row.take (k+1)) i↔gT X D cl c (row.take k) i\/(row[k].1=0/\XG D row[k].2.toNat ≠ c/\RT X cl row[k].2.toNat i):=by
 unfold gT
 rw [gE8 h]
 simp only [List.mem_append,List.mem_singleton]
 constructor
 ·rintro ⟨s,hs | hs,h1⟩
  ·exact .inl ⟨s,hs,h1⟩
  subst hs;exact .inr h1
 rintro (⟨s,hs,h1⟩ | h1)
 ·exact ⟨s,.inl hs,h1⟩
 exact ⟨_,.inr rfl,h1⟩
theorem Qj (X:List (List Ar)) (D cl:List Int) (c:Nat) (l:List Nat) (e:Int) (i:Nat):¬ Y8 X D cl c (l.take 0) e i:=by rintro ⟨s,hs,_⟩;simp at hs
theorem Sy (X:List (List Ar)) (D cl:List Int) (c:Nat) (l:List Ar) (e:Int) (i:Nat):¬ gV X D cl c (l.take 0) e i:=by rintro ⟨s,hs,_⟩;simp at hs
theorem Ql {X:List (List Ar)} {D cl:List Int} {c:Nat} {l:List Nat} {k:Nat} (h:k<l.length) (e:Int) (i:Nat):Y8 X D cl c (l.take (k+1)) e i↔Y8 X D cl c (l.take k) e i\/gV X D cl c (X.getD l[k] []) e i:=by
 unfold Y8
 rw [gE8 h]
 simp only [List.mem_append,List.mem_singleton]
 constructor
 ·rintro ⟨s,hs | hs,h1⟩
  ·exact .inl ⟨s,hs,h1⟩
  subst hs;exact .inr h1
 rintro (⟨s,hs,h1⟩ | h1)
 ·exact ⟨s,.inl hs,h1⟩
 exact ⟨_,.inr rfl,h1⟩
theorem Sz {X:List (List Ar)} {D cl:List Int} {c:Nat} {row:List Ar} {k:Nat} (h:k<row.length) (e:Int) (i:Nat):gV X D cl c (row.take (k+1)) e i↔gV X D cl c (row.take k) e i\/(row[k].1 ≠ 0/\row[k].1=e/\RT X cl row[k].2.toNat i)\/(row[k].1=0/\XG D row[k].2.toNat ≠ c/\RV X cl row[k].2.toNat e i):=by
 unfold gV
 rw [gE8 h]
 simp only [List.mem_append,List.mem_singleton]
 constructor
 ·rintro ⟨s,hs | hs,h1⟩
  ·exact .inl ⟨s,hs,h1⟩
  subst hs;exact .inr h1
 rintro (⟨s,hs,h1⟩ | h1)
 ·exact ⟨s,.inl hs,h1⟩
 exact ⟨_,.inr rfl,h1⟩
structure VSt (H:List Ob) (L:Nat) (V:List (Int × Nat × Nat)) (N:Int->Nat->Prop):Prop where
 nd:(V.map (·.1)).Nodup
 nk:(V.map (·.2.1)).Nodup
 ob:∀ p∈V,L<=p.2.1/\H[p.2.1]?=some (C4 p.2.2)/\p.2.2<2 ^ 64/\∃ i,i<64/\p.2.2.testBit i=true
 ex:∀ e i,i<64->((∃ p∈V,p.1=e/\p.2.2.testBit i=true)↔N e i)
theorem VSt.nil (H:List Ob) (L:Nat) {N:Int->Nat->Prop} (h:∀ e i,¬ N e i):VSt H L [] N:=⟨by simp,by simp,by simp,fun e i _=>by simp [h e i]⟩
theorem VSt.iff {H:List Ob} {L:Nat} {V:List (Int × Nat × Nat)} {N M:Int->Nat->Prop} (h:VSt H L V N) (e:∀ e i,i<64->(N e i↔M e i)):VSt H L V M:=⟨h.nd,h.nk,h.ob,fun x i hi=>(h.ex x i hi).trans (e x i hi)⟩
theorem VSt.pre {H G:List Ob} {L:Nat} {V:List (Int × Nat × Nat)} {N:Int->Nat->Prop} (h:VSt H L V N) (hp:Pre H G):VSt G L V N:=⟨h.nd,h.nk,fun p hp2=>by obtain ⟨a,b,c⟩:=h.ob p hp2;exact ⟨a,hp.at b,c⟩,h.ex⟩
theorem Gv {α β:Type} {f:α->β}:∀ {l:List α},(l.map f).Nodup->∀ {a b},a∈l->b∈l->f a=f b->a=b
 | [],_,_,_,h,_,_=>by simp at h
 | x :: l,hn,a,b,ha,hb,e=>by
  simp only [List.map_cons,List.nodup_cons] at hn
  rcases List.mem_cons.1 ha with h1 | h1
  ·rcases List.mem_cons.1 hb with h2 | h2
   ·rw [h1,h2]
   ·exact absurd (List.mem_map.2 ⟨b,h2,by rw [<- e,h1]⟩) hn.1
  ·rcases List.mem_cons.1 hb with h2 | h2
   ·exact absurd (List.mem_map.2 ⟨a,h1,by rw [e,h2]⟩) hn.1
   ·exact Gv hn.2 h1 h2 e
theorem VSt.setm {H:List Ob} {L i:Nat} {V:List (Int × Nat × Nat)} {N:Int->Nat->Prop} {kv:List (Value × C)} (h:VSt H L V N) (hi:H[i]?=some (.m kv)) (ob:Ob):VSt (H.set i ob) L V N:=⟨h.nd,h.nk,fun p hp=>by
 obtain ⟨a,b,c⟩:=h.ob p hp
 refine ⟨a,?_,c⟩
 have hne:i ≠ p.2.1:=by rintro rfl;rw [hi] at b;cases b
 rw [gE5 hne];exact b,h.ex⟩
theorem VSt.join {H G:List Ob} {L mid:Nat} {V:List (Int × Nat × Nat)} {N:Int->Nat->Prop} {e:Int} {w:Nat} {q:Nat->Prop} (h:VSt H L V N) (hm:H[mid]?=some (.m (Y4 V))) (hL:mid<L) (hLH:L<=H.length) (hw:WS w q) (hq:∃ i,i<64/\q i) (hj:SJ H mid V e w G):
  ∃ V',G[mid]?=some (.m (Y4 V'))/\VSt G L V' (fun e' i=>N e' i\/(e'=e/\q i))/\H.length<=G.length/\(∀ j,j<L->j ≠ mid->G[j]?=H[j]?)/\∀ j kv,H[j]?=some (.m kv)->j ≠ mid->G[j]?=some (.m kv):=by
 rcases hj with ⟨p,hp,he,rfl⟩ | ⟨hno,rfl⟩
 rotate_left
 ·have hml:mid<H.length:=Br hm
  refine ⟨V++[(e,H.length,w)],?_,⟨?_,?_,fun x hx=>?_,fun e' i hi=>?_⟩,by simp,fun j hj hjm=>by rw [gE5 (Ne.symm hjm),gEa (by omega)],fun j kv hj hjm=>by rw [gE5 (Ne.symm hjm),gEa (Br hj)];exact hj⟩
  rotate_left 4
  ·rw [<- h.ex e' i hi]
   simp only [List.mem_append,List.mem_singleton]
   constructor
   ·rintro ⟨x,hx | rfl,h1,h2⟩
    ·exact .inl ⟨x,hx,h1,h2⟩
    exact .inr ⟨h1.symm,(hw.2 i hi).1 h2⟩
   rintro (⟨x,hx,h1,h2⟩ | ⟨h1,h2⟩)
   ·exact ⟨x,.inl hx,h1,h2⟩
   exact ⟨_,.inr rfl,h1.symm,(hw.2 i hi).2 h2⟩
  ·exact gEc (by simp;omega)
  ·rw [List.map_append,List.nodup_append]
   refine ⟨h.nd,by simp,fun a ha b hb=>?_⟩
   obtain ⟨p,hp,rfl⟩:=List.mem_map.1 ha
   simp only [List.map_cons,List.map_nil,List.mem_singleton] at hb
   rw [hb];exact hno p hp
  ·rw [List.map_append,List.nodup_append]
   refine ⟨h.nk,by simp,fun a ha b hb=>?_⟩
   obtain ⟨p,hp,rfl⟩:=List.mem_map.1 ha
   simp only [List.map_cons,List.map_nil,List.mem_singleton] at hb
   have:=Br (h.ob p hp).2.1
   omega
  rcases List.mem_append.1 hx with hx | hx
  ·obtain ⟨a1,a2,a3⟩:=h.ob x hx
   refine ⟨a1,?_,a3⟩
   have:=Br a2
   rw [gE5 (by omega),gEa this]
   exact a2
  simp only [List.mem_singleton] at hx
  subst hx
  refine ⟨hLH,?_,hw.1,?_⟩
  ·rw [gE5 (by simp only;omega)];exact Bp _ _
  obtain ⟨i,hi,hb⟩:=hq
  exact ⟨i,hi,(hw.2 i hi).2 hb⟩
 obtain ⟨o1,o2,o3,o4⟩:=h.ob p hp
 obtain ⟨A,B,hAB⟩:=List.append_of_mem hp
 have hsame:Y4 (A++(p.1,p.2.1,p.2.2 ||| w) :: B)=Y4 V:=by rw [hAB];simp [Y4]
 have hne:∀ x∈V,x ≠ p->x.2.1 ≠ p.2.1:=fun x hx hxp e=>hxp (Gv h.nk hx hp e)
 have hpA:p ∉ A++B:=by
  have:=h.nd
  rw [hAB] at this
  intro hin
  simp only [List.map_append,List.map_cons] at this
  have h2:=(List.perm_middle (a:=p.1) (l₁:=A.map (·.1)) (l₂:=B.map (·.1))).nodup_iff.1 this
  rw [List.nodup_cons] at h2
  exact h2.1 (by rw [<- List.map_append];exact List.mem_map.2 ⟨p,hin,rfl⟩)
 have hmem:∀ x,x∈V↔x=p\/x∈A++B:=fun x=>by rw [hAB];simp only [List.mem_append,List.mem_cons];constructor <;> (intro h;rcases h with h | h | h <;> simp [h])
 refine ⟨A++(p.1,p.2.1,p.2.2 ||| w) :: B,?_,⟨?_,?_,fun x hx=>?_,fun e' i hi=>?_⟩,by simp,fun j hj hjm=>by rw [gE5 (by omega)],fun j kv hj hjm=>by
  have hne2:p.2.1 ≠ j:=by rintro rfl;rw [o2] at hj;cases hj
  rw [gE5 hne2];exact hj⟩
 ·rw [hsame,gE5 (by omega)];exact hm
 ·have:=h.nd;rw [hAB] at this;simpa using this
 ·have:=h.nk;rw [hAB] at this;simpa using this
 ·have hx2:x=(p.1,p.2.1,p.2.2 ||| w)\/x∈A++B:=by
   simp only [List.mem_append,List.mem_cons] at hx ⊢
   rcases hx with h | h | h <;> simp [h]
  rcases hx2 with rfl | hx2
  ·refine ⟨o1,?_,Uj o3 hw.1,?_⟩
   ·exact gEc (Br o2)
   obtain ⟨i,hi,hb⟩:=o4
   exact ⟨i,hi,Sr.2 (.inl hb)⟩
  have hxV:=(hmem x).2 (.inr hx2)
  obtain ⟨a1,a2,a3⟩:=h.ob x hxV
  refine ⟨a1,?_,a3⟩
  rw [gE5 (Ne.symm (hne x hxV (fun e=>hpA (e ▸ hx2))))]
  exact a2
 have e1:(∃ x∈A++(p.1,p.2.1,p.2.2 ||| w) :: B,x.1=e'/\x.2.2.testBit i=true)↔(p.1=e'/\(p.2.2 ||| w).testBit i=true)\/∃ x∈A++B,x.1=e'/\x.2.2.testBit i=true:=by
  simp only [List.mem_append,List.mem_cons]
  constructor
  ·rintro ⟨x,h | h | h,h2⟩
   ·exact .inr ⟨x,.inl h,h2⟩
   ·subst h;exact .inl h2
   exact .inr ⟨x,.inr h,h2⟩
  rintro (h2 | ⟨x,h | h,h2⟩)
  ·exact ⟨_,.inr (.inl rfl),h2⟩
  ·exact ⟨x,.inl h,h2⟩
  exact ⟨x,.inr (.inr h),h2⟩
 have e2:(∃ x∈V,x.1=e'/\x.2.2.testBit i=true)↔(p.1=e'/\p.2.2.testBit i=true)\/∃ x∈A++B,x.1=e'/\x.2.2.testBit i=true:=by
  constructor
  rotate_left
  ·rintro (h2 | ⟨x,hx,h2⟩)
   ·exact ⟨p,hp,h2⟩
   exact ⟨x,(hmem x).2 (.inr hx),h2⟩
  rintro ⟨x,hx,h2⟩
  rcases (hmem x).1 hx with rfl | hx
  ·exact .inl h2
  exact .inr ⟨x,hx,h2⟩
 rw [e1,Sr,hw.2 i hi,<- h.ex e' i hi,e2]
 constructor
 ·rintro (⟨a,b | b⟩ | c)
  ·exact .inl (.inl ⟨a,b⟩)
  ·exact .inr ⟨a ▸ he,b⟩
  exact .inl (.inr c)
 rintro ((⟨a,b⟩ | c) | ⟨a,b⟩)
 ·exact .inl ⟨a,.inl b⟩
 ·exact .inr c
 exact .inl ⟨he.trans a.symm,.inr b⟩
def NP (f:Nat->Nat) (E:List Ed) (k:Nat):List Nat:=(List.range k).filter fun s=>decide (f s=s) && Xz E s == 0
theorem NQ (f:Nat->Nat) (E:List Ed) (k:Nat):NP f E (k+1)=NP f E k++if f k=k/\Xz E k=0 then [k] else []:=by
 unfold NP
 rw [List.range_succ,List.filter_append]
 by_cases h1:f k=k <;> by_cases h2:Xz E k=0 <;> simp [h1,h2]
theorem Q8 (f:Nat->Nat) (E:List Ed) (k:Nat):(NP f E k).length<=k:=by
 have:=List.length_filter_le (fun s=>decide (f s=s) && Xz E s == 0) (List.range k)
 rwa [List.length_range] at this
theorem Kh.start {E:List Ed} {n:Nat} {f:Nat->Nat}:Kh E n f 0 0 (NP f E n) (XA n E):=by
 refine ⟨Gr _ _,fun c hc=>?_,(List.nodup_range).filter _,fun c hc=>?_,fun c hc hf=>?_,fun j c hj e he h1=>?_⟩
 ·rw [Hq hc];simp [Sf]
 ·have:=List.mem_filter.1 hc
  simp only [List.mem_range,Bool.and_eq_true,decide_eq_true_eq] at this
  exact ⟨this.1,this.2.1⟩
 ·rw [Hq hc]
  unfold NP
  rw [List.mem_filter]
  simp only [List.mem_range,Bool.and_eq_true,decide_eq_true_eq,beq_iff_eq]
  constructor
  ·rintro ⟨_,_,h⟩;rw [h];rfl
  intro h;injection h with h;exact ⟨hc,hf,by omega⟩
 have hin:=gE9 hj
 have h2:=(List.mem_filter.1 hin).2
 simp only [Bool.and_eq_true,decide_eq_true_eq,beq_iff_eq] at h2
 have h3:Xz E c=0:=h2.2
 unfold Xz at h3
 rw [List.countP_eq_zero] at h3
 exact absurd (by simpa using h1) (h3 e he)
set_option maxHeartbeats 8000000 in
theorem Ub (R:List (List Ar)) (D:List Int) (f rk:Nat->Nat) (hlo:∀ r∈R,∀ a∈r,0<=a.2/\a.2<(R.length:Int)) (htot:Bw R<=1000000) (hDl:D.length=R.length) (hD:∀ v,v<R.length->D[v]?=some (f v:Int)/\f v<R.length) (hE:∀ e∈Xy f R R.length,(e.1<R.length/\f e.1=e.1)/\e.2<R.length/\f e.2=e.2/\rk e.2<rk e.1) (hn:R.length<=1000000) (hr:∀ r∈R,r.length<=1000000):FC Tryz.prog 75 [B7 R,As D] [] (fun r o=>∃ Q,Hr (Xy f R R.length) R.length f Q/\r=.a (.c (.s 0 Q.length))/\o=[AA (Q.map Int.ofNat)]):=by
 refine A6 Tryz.func75 rfl (by rw [Tryz.ntmps75];simp) ?_
 rw [Tryz.ntmps75]
 simp only [Bf,B7,As]
 (refine Wu @A3 ?_;(repeat clear hK K);repeat refine kq fun K hK=>?_)
 have e0:List.replicate R.length (C.v (.int .i64 0))=A7 (XA R.length (Xy f R 0)):=by
  have:XA R.length (Xy f R 0)=List.replicate R.length 0:=List.ext_getElem (by simp [XA]) fun i h1 h2=>by simp [XA,Xy,Xz]
  rw [this];simp [A7]
 have e1:List.replicate R.length (C.o (1,3) [])=Bd (En R.length (Xy f R 0)):=by
  have:En R.length (Xy f R 0)=List.replicate R.length []:=List.ext_getElem (by simp [En]) fun i h1 h2=>by simp [En,Xy,XC]
  rw [this];simp [Bd,Ab]
 rw [e0,e1]
 refine A8 (fun k:Nat=>{ tm:=[(1,.a (.c (.t 1 (Ab D)))),(2,.a (.c (.p 0 0))),(5,.a (.c (.s 1 R.length))),(6,.a (.c (.s 2 R.length))),(28,.a (.c (.t 1 (Ah R)))),(29,.i R.length),(30,.i k)],hp:=[.r ⟨25,1,false,[.t 1 (Ah R)]⟩,.r ⟨3,1,true,A7 (XA R.length (Xy f R k))⟩,.r ⟨22,1,true,Bd (En R.length (Xy f R k))⟩],n:=133,pin:=0 }) (fun k=>k<=R.length) (fun k=>R.length - k) 0 ?_ ?_ ?_
 ·omega
 ·exact WE
 rintro k hk K hK
 by_cases hlt:k<R.length
 ·have d1:decide ((k:Int)<(R.length:Int))=true:=by simpa using hlt
  have hgR:=gE1 hlt
  have hgd:R.getD k []=R[k]:=by rw [gE2,hgR];rfl
  have hrl:=hr _ (gE6 hlt)
  have hbs:=hlo _ (gE6 hlt)
  have hel:=ND f R k hk
  have hto:=Cj hlt
  have hto2:=Hi R (k+1)
  have hsu:Xy f R (k+1)=Xy f R k++Xx f k R[k]:=by rw [KM,hgd]
  obtain ⟨gDk0,hfk⟩:=hD k hlt
  have gDk:=Am gDk0
  generalize R[k]=row at *
  generalize Xy f R k=E0 at *
  (refine Wu @d1 ?_;(repeat clear hK K);repeat refine kq fun K hK=>?_)
  refine WB ?_
  (refine Wu (an @A3 (an (Ag hgR) (an @A2 @Ak))) ?_;(repeat clear hK K);repeat refine kq fun K hK=>?_)
  refine A8 (fun j:Nat=>{ tm:=[(1,.a (.c (.t 1 (Ab D)))),(2,.a (.c (.p 0 0))),(5,.a (.c (.s 1 R.length))),(6,.a (.c (.s 2 R.length))),(7,.i k),(28,.a (.c (.t 1 (Ah R)))),(29,.i R.length),(30,.i k),(35,.a (.c (.t 2 (Ao row)))),(36,.i row.length),(37,.i j)],hp:=[.r ⟨25,1,false,[.t 1 (Ah R)]⟩,.r ⟨3,1,true,A7 (XA R.length (E0++Xx f k (row.take j)))⟩,.r ⟨22,1,true,Bd (En R.length (E0++Xx f k (row.take j)))⟩],n:=133,pin:=0 }) (fun j=>j<=row.length) (fun j=>row.length - j) 0 ?_ ?_ ?_
  ·omega
  ·simp only [List.take_zero,Xx,List.filterMap_nil,List.append_nil]
   exact WE
  rintro j hj K hK
  by_cases hlt2:j<row.length
  rotate_left
  ·have d2:decide ((j:Int)<(row.length:Int))=false:=by simpa using hlt2
   have hje:row.take j=row:=gE7 (by omega)
   rw [hje,<- hsu]
   (refine Wu @d2 ?_;(repeat clear hK K);repeat refine kq fun K hK=>?_)
   refine WC ?_
   (refine Wx ?_;repeat clear hK K)
   (refine Wt ?_;(repeat clear hK K);repeat refine kq fun K hK=>?_)
   refine WD ?_
   refine hK _ (k+1) (by omega) (by omega) ?_
   exact WE
  have d2:decide ((j:Int)<(row.length:Int))=true:=by simpa using hlt2
  have hat:=AL hlt2
  have hb:=hbs _ (gE6 hlt2)
  have hsn:=PZ f k (row.take j) row[j]
  rw [<- gE8 hlt2] at hsn
  have hrl2:=List.length_filterMap_le (Xw f k) (row.take j)
  have hrl3:(Xx f k (row.take j)).length<=j:=by have:=List.length_take_le j row;unfold Xx;omega
  generalize row[j]=a at *
  obtain ⟨e,t⟩:=a
  simp only at hat hb
  obtain ⟨tn,rfl⟩:∃ tn:Nat,t=(tn:Int):=⟨t.toNat,by omega⟩
  have htn:tn<R.length:=by omega
  obtain ⟨gDt0,hft⟩:=hD tn htn
  have gDt:=Am gDt0
  have hEl:(E0++Xx f k (row.take j)).length<=1000000:=by rw [List.length_append];omega
  have hdef:Xw f k (e,(tn:Int))=if e=0/\f k ≠ f tn then some (f k,f tn) else none:=rfl
  have hnx:E0++Xx f k (row.take (j+1))=(E0++Xx f k (row.take j))++(Xw f k (e,(tn:Int))).toList:=by rw [hsn,List.append_assoc]
  generalize E0++Xx f k (row.take j)=E at *
  have hcl:=Re E (f k)
  have hbl:=NF E (f tn)
  have hwl:=Gr R.length E
  have hbfl:=FL R.length E
  (refine Wu @d2 ?_;(repeat clear hK K);repeat refine kq fun K hK=>?_)
  refine WB ?_
  (refine Cn (an @hat (an @A2 @Ak)) ?_;(repeat clear hK K);repeat refine kq fun K hK=>?_)
  (refine Ac 10 [(0,0),(1,0),(2,0),(3,1),(4,0),(5,0),(6,1),(7,0),(8,1),(9,0),(10,2)] (by kernel_rfl) (by kernel_rfl) (by intro c st h;simp [Ae,AF,VT] at h) ?_)
  (refine Wq (an @A4 (an @hDl (an @gDk @gDt))) ?_;repeat clear hK K)
  by_cases hq:e=0/\f k ≠ f tn
  rotate_left
  ·rw [if_neg hq] at hdef
   rw [hdef] at hnx
   have hnx:E0++Xx f k (row.take (j+1))=E:=by rw [hnx];simp
   by_cases he:e=0
   rotate_left
   ·have d3:(e == 0)=false:=by simpa using he
    (refine Wu @d3 ?_;(repeat clear hK K);repeat refine kq fun K hK=>?_)
    refine WC ?_
    (refine Wt ?_;(repeat clear hK K);repeat refine kq fun K hK=>?_)
    refine WD ?_
    refine hK _ (j+1) (by omega) (by omega) ?_
    refine Le.trans (A9 [0,1,2] rfl rfl) ?_
    (try simp only [List.set_nil,List.take_nil,List.take_zero,List.map_append,go_sem])
    (try simp only [Af,D9])
    rw [hnx]
    exact WE
   have d3:(e == 0)=true:=by simpa using he
   have hff:f k=f tn:=Decidable.not_not.1 fun h=>hq ⟨he,h⟩
   have d4:((f k:Int) != (f tn:Int))=false:=by simp [hff]
   (refine Wu (an @d3 @d4) ?_;(repeat clear hK K);repeat refine kq fun K hK=>?_)
   refine WC ?_
   (refine Wt ?_;(repeat clear hK K);repeat refine kq fun K hK=>?_)
   refine WD ?_
   refine hK _ (j+1) (by omega) (by omega) ?_
   refine Le.trans (A9 [0,1,2] rfl rfl) ?_
   (try simp only [List.set_nil,List.take_nil,List.take_zero,List.map_append,go_sem])
   (try simp only [Af,D9])
   rw [hnx]
   exact WE
  obtain ⟨he,hff⟩:=hq
  have d3:(e == 0)=true:=by simpa using he
  have d4:((f k:Int) != (f tn:Int))=true:=by simp;omega
  rw [if_pos ⟨he,hff⟩] at hdef
  rw [hdef] at hnx
  have hnx:E0++Xx f k (row.take (j+1))=E++[(f k,f tn)]:=hnx
  have gW:(A7 (XA R.length E))[f k]?=some (.v (.int .i64 (Xz E (f k):Nat))):=Aq (Hq hfk)
  have gB:=DS (KN (E:=E) hft)
  have hws:=Q1 (E:=E) (t:=f tn) hfk
  have hbs2:=NE (E:=E) (c:=f k) hft
  have hml:((XC E (f tn)).map Int.ofNat).length<=1000000:=by rw [List.length_map];omega
  generalize (XC E (f tn)).map Int.ofNat=oc at *
  (refine Wu (an @d3 @d4) ?_;(repeat clear hK K);repeat refine kq fun K hK=>?_)
  refine WB ?_
  (refine Cn (an @A5 (an @hwl (an @gW (an @AK (an @hws (an @BB (an @gB (an @hbfl (an @CV (an @List.length_set.{0} (an @List.set_cons_zero.{0} (an @List.set_cons_succ.{0} (an @List.take_succ_cons.{0} (an @List.take_zero.{0} (an @List.drop_zero.{0} (an @List.length_take.{0} (an @List.length_drop.{0} (an @List.length_append.{0} (an @A4 (an @Az (an @AN (an @Bm (an @A5 (an @AU (an @AE (an @B1 (an @AG @AM))))))))))))))))))))))))))) ?_;(repeat clear hK K);repeat refine kq fun K hK=>?_)
  have hj6:((Bd (En R.length E)).set (f tn) (C.s 5 (oc.length+1)))[f tn]?=some (.s 5 (oc.length+1)):=by rw [gEc (by rw [BB];omega)]
  have hset6:((Bd (En R.length E)).set (f tn) (C.s 5 (oc.length+1))).set (f tn) (.o (1,3) (Ab (oc++[(f k:Int)])))=Bd (En R.length (E++[(f k,f tn)])):=by rw [CV,F3,hbs2]
  refine WD ?_
  refine hK _ (j+1) (by omega) (by omega) ?_
  refine Le.trans (AR (r:=⟨3,1,true,A7 (oc++[(f k:Int)])⟩) (ri:=⟨22,1,true,(Bd (En R.length E)).set (f tn) (C.s 5 (oc.length+1))⟩) (ts:=Ab (oc++[(f k:Int)])) 2 (f tn) 5 (oc.length+1) (by decide) rfl hj6 rfl rfl (show 0<1 by omega) (by rw [A5];simp) (EM _)) ?_
  simp only [hset6,go_sem]
  refine Le.trans (A9 [0,1,2] rfl rfl) ?_
  (try simp only [List.set_nil,List.take_nil,List.take_zero,List.map_append,go_sem])
  (try simp only [Af,D9])
  rw [hnx]
  exact WE
 have d1:decide ((k:Int)<(R.length:Int))=false:=by simpa using hlt
 have hke:k=R.length:=by omega
 have hel:=ND f R R.length (Nat.le_refl _)
 rw [List.take_length] at hel
 rw [hke] at d1
 rw [hke]
 obtain ⟨E,hEe⟩:∃ E,E=Xy f R R.length:=⟨_,rfl⟩
 rw [<- hEe] at hel hE ⊢
 have hwl:=Gr R.length E
 have hbfl:=FL R.length E
 (refine Wu @d1 ?_;(repeat clear hK K);repeat refine kq fun K hK=>?_)
 refine WC ?_
 (refine Wx ?_;repeat clear hK K)
 refine Au (Cm 2 rfl) ?_
 simp only [F8,go_sem]
 have htk:(Co (En R.length E)).take R.length=Co (En R.length E):=gE7 (by rw [BL];omega)
 have hif:(if R.length<=(Co (En R.length E)).length then C.t 1 (Co (En R.length E)) else C.u)=C.t 1 (Co (En R.length E)):=if_pos (by rw [BL];omega)
 (refine Au (Bg (r:=⟨22,1,true,CE (En R.length E)⟩) 2 (Co (En R.length E)) rfl (PQ _) (show 0<(1:Nat) by omega)) ?_;simp only [ST.frz,A0.frz,AV.frz,C.frz,Nat.le_refl,List.set_cons_zero,List.set_cons_succ,go_sem,htk,hif])
 (refine Wu (an @A4 @hDl) ?_;(repeat clear hK K);repeat refine kq fun K hK=>?_)
 refine Au (CT 13 3 1 ?_) ?_
 ·simp only [go_sem]
 refine Au (A9 [1,3] rfl rfl) ?_
 (try simp only [List.set_nil,List.take_nil,List.take_zero,List.map_append,go_sem])
 (try simp only [Af])
 refine A8 (fun k:Nat=>{ tm:=[(5,.a (.c (.s 0 R.length))),(6,.a (.c (.t 1 (Co (En R.length E))))),(13,.a (.c (.s 1 (NP f E k).length))),(76,.a (.c (.t 1 (Ab D)))),(77,.i R.length),(78,.i k)],hp:=[.r ⟨3,1,true,A7 (XA R.length E)⟩,.r ⟨3,1,true,A7 ((NP f E k).map Int.ofNat)⟩],n:=133,pin:=0 }) (fun k=>k<=R.length) (fun k=>R.length - k) 0 ?_ ?_ ?_
 ·omega
 ·simp only [NP,List.range_zero,List.filter_nil,List.map_nil,List.length_nil,A7]
  exact WE
 clear hk hlt d1 hke
 rintro k hk K hK
 have hql:=Q8 f E k
 have hsu:=NQ f E k
 by_cases hlt:k<R.length
 ·have d2:decide ((k:Int)<(R.length:Int))=true:=by simpa using hlt
  obtain ⟨gD0,hfk⟩:=hD k hlt
  have gD:=Am gD0
  have gW:(A7 (XA R.length E))[f k]?=some (.v (.int .i64 (Xz E (f k):Nat))):=Aq (Hq hfk)
  by_cases h1:f k=k
  rotate_left
  ·have d3:((k:Int) == (f k:Int))=false:=by simp;omega
   rw [if_neg (fun h=>h1 h.1),List.append_nil] at hsu
   (refine Wu @d2 ?_;(repeat clear hK K);repeat refine kq fun K hK=>?_)
   refine WB ?_
   (refine Wu (an @A4 (an @hDl (an @gD @d3))) ?_;(repeat clear hK K);repeat refine kq fun K hK=>?_)
   refine WC ?_
   (refine Wt ?_;(repeat clear hK K);repeat refine kq fun K hK=>?_)
   refine WD ?_
   refine hK _ (k+1) (by omega) (by omega) ?_
   rw [hsu]
   exact WE
  have d3:((k:Int) == (f k:Int))=true:=by simp [h1]
  by_cases h2:Xz E (f k)=0
  rotate_left
  ·have d4:(((Xz E (f k):Nat):Int) == 0)=false:=by simp;omega
   rw [if_neg (fun h=>h2 (by rw [h.1];exact h.2)),List.append_nil] at hsu
   (refine Wu @d2 ?_;(repeat clear hK K);repeat refine kq fun K hK=>?_)
   refine WB ?_
   (refine Wu (an @A4 (an @hDl (an @gD (an @d3 (an @A5 (an @hwl (an @gW @d4))))))) ?_;(repeat clear hK K);repeat refine kq fun K hK=>?_)
   refine WC ?_
   (refine Wt ?_;(repeat clear hK K);repeat refine kq fun K hK=>?_)
   refine WD ?_
   refine hK _ (k+1) (by omega) (by omega) ?_
   rw [hsu]
   exact WE
  have d4:(((Xz E (f k):Nat):Int) == 0)=true:=by simp [h2]
  rw [if_pos ⟨h1,by rw [<- h1];exact h2⟩] at hsu
  generalize NP f E k=Q at *
  (refine Wu @d2 ?_;(repeat clear hK K);repeat refine kq fun K hK=>?_)
  refine WB ?_
  (refine Wu (an @A4 (an @hDl (an @gD (an @d3 (an @A5 (an @hwl (an @gW @d4))))))) ?_;(repeat clear hK K);repeat refine kq fun K hK=>?_)
  refine WB ?_
  (refine Wu (an @List.length_map.{0,0} (an @List.set_cons_zero.{0} (an @List.set_cons_succ.{0} (an @List.take_succ_cons.{0} (an @List.take_zero.{0} (an @List.drop_zero.{0} (an @List.length_take.{0} (an @List.length_drop.{0} (an @List.length_append.{0} (an @A4 (an @Az (an @AN (an @Bm (an @A5 (an @AU (an @AE (an @B1 (an @AG @AM)))))))))))))))))) ?_;(repeat clear hK K);repeat refine kq fun K hK=>?_)
  refine WD ?_
  refine hK _ (k+1) (by omega) (by omega) ?_
  refine Le.trans (A9 [0,3] rfl rfl) ?_
  (try simp only [List.set_nil,List.take_nil,List.take_zero,List.map_append,go_sem])
  (try simp only [Af])
  have htk2:(Q.map Int.ofNat).take Q.length=Q.map Int.ofNat:=gE7 (by simp)
  rw [hsu]
  simp only [htk2,List.map_append,List.map_cons,List.map_nil,List.length_append,List.length_singleton,h1]
  exact WE
 have d2:decide ((k:Int)<(R.length:Int))=false:=by simpa using hlt
 have hke:k=R.length:=by omega
 rw [hke] at d2
 rw [hke]
 (refine Wu @d2 ?_;(repeat clear hK K);repeat refine kq fun K hK=>?_)
 refine WC ?_
 (refine Wx ?_;repeat clear hK K)
 (refine Wt ?_;(repeat clear hK K);repeat refine kq fun K hK=>?_)
 refine A8 (fun x:Nat × List Nat × List Int=>{ tm:=[(5,.a (.c (.s 0 R.length))),(6,.a (.c (.t 1 (Co (En R.length E))))),(13,.a (.c (.s 1 x.2.1.length))),(16,.i x.1)],hp:=[.r ⟨3,1,true,A7 x.2.2⟩,.r ⟨3,1,true,A7 (x.2.1.map Int.ofNat)⟩],n:=133,pin:=0 }) (fun x=>x.1<=x.2.1.length/\Kh E R.length f x.1 0 x.2.1 x.2.2) (fun x=>R.length - x.1) (0,NP f E R.length,XA R.length E) ?_ ?_ ?_
 ·exact ⟨by simp,Kh.start⟩
 ·exact WE
 clear hk hlt d2 hke hql hsu
 rintro ⟨i,Q,W⟩ ⟨hi,hK1⟩ K hK
 simp only at hi hK1
 have hQl:=hK1.qlen
 have hWl:=hK1.len
 by_cases hli:i<Q.length
 rotate_left
 ·have d3:decide ((i:Int)<(Q.length:Int))=false:=by simpa using hli
  have hie:i=Q.length:=by omega
  rw [hie] at hK1
  (refine Wu @d3 ?_;(repeat clear hK K);repeat refine kq fun K hK=>?_)
  refine WC ?_
  (refine Wx ?_;repeat clear hK K)
  (refine Wt ?_;(repeat clear hK K);repeat refine kq fun K hK=>?_)
  ((try refine Av ?_);(try simp only [Ae,AF]);refine B6 (A9 [1] rfl rfl) ?_;(try simp only [List.set_nil,List.take_nil,List.take_zero,List.map_append,go_sem]);((try refine Av ?_);(try refine Aa ?_);(try simp only [Ae,AF]);refine Bj (by first | exact .inl rfl | exact .inr rfl) rfl ?_;simp only [VU,Dy,Du,DL,Tryz.results75,go_sem,true_and,and_true,Af,AA]))
  exact ⟨Q,by rw [<- hEe];exact hK1.done rk (fun e he=>(hE e he).2),rfl,rfl⟩
 have d3:decide ((i:Int)<(Q.length:Int))=true:=by simpa using hli
 have hqg:Q.getD i 0=Q[i]:=by rw [gE2,gE1 hli];rfl
 have hqn:=(hK1.rep _ (gE6 hli)).1
 have gq:(A7 (Q.map Int.ofNat))[i]?=some (.v (.int .i64 ((Q[i]:Nat):Int))):=Aq (by rw [List.getElem?_map,gE1 hli];rfl)
 have hqi:=gE1 hli
 generalize Q[i]=q at *
 have gB:=DA (KN (E:=E) hqn)
 have hbl:=NF E q
 (refine Wu @d3 ?_;(repeat clear hK K);repeat refine kq fun K hK=>?_)
 refine WB ?_
 (refine Wu (an @A5 (an @List.length_map.{0,0} (an @gq (an @BL (an @hbfl (an @gB @A4)))))) ?_;(repeat clear hK K);repeat refine kq fun K hK=>?_)
 refine A8 (fun x:Nat × List Nat × List Int=>{ tm:=[(5,.a (.c (.s 0 R.length))),(6,.a (.c (.t 1 (Co (En R.length E))))),(13,.a (.c (.s 1 x.2.1.length))),(16,.i i),(110,.a (.c (.t 1 (Ab ((XC E q).map Int.ofNat))))),(111,.i (XC E q).length),(112,.i x.1)],hp:=[.r ⟨3,1,true,A7 x.2.2⟩,.r ⟨3,1,true,A7 (x.2.1.map Int.ofNat)⟩],n:=133,pin:=0 }) (fun x=>x.1<=(XC E q).length/\i<x.2.1.length/\x.2.1.getD i 0=q/\Kh E R.length f i x.1 x.2.1 x.2.2) (fun x=>(XC E q).length - x.1) (0,Q,W) ?_ ?_ ?_
 ·exact ⟨by simp,hli,hqg,hK1⟩
 ·exact WE
 clear hK1 hQl hWl hi hli d3 gq hqi hqg
 rintro ⟨m,Q,W⟩ ⟨hm,hli,hqg,hK1⟩ K hK
 simp only at hm hli hqg hK1
 have hQl:=hK1.qlen
 have hWl:=hK1.len
 by_cases hlm:m<(XC E q).length
 rotate_left
 ·have d4:decide ((m:Int)<((XC E q).length:Int))=false:=by simpa using hlm
  have hnx:=hK1.next hli (by rw [hqg];omega)
  (refine Wu @d4 ?_;(repeat clear hK K);repeat refine kq fun K hK=>?_)
  refine WC ?_
  (refine Wx ?_;repeat clear hK K)
  (refine Wt ?_;(repeat clear hK K);repeat refine kq fun K hK=>?_)
  refine WD ?_
  refine hK _ (i+1,Q,W) ⟨by simp only;omega,hnx⟩ (by simp only;omega) ?_
  exact WE
 have d4:decide ((m:Int)<((XC E q).length:Int))=true:=by simpa using hlm
 have hcm:(XC E (Q.getD i 0))[m]?=some (XC E q)[m]:=by rw [hqg];exact gE1 hlm
 obtain ⟨hc1,hc2,w,hw,hw1,hw2,hst1,hst2⟩:=hK1.step hli (fun e he=>(hE e he).1) hcm
 have gp:(Ab ((XC E q).map Int.ofNat))[m]?=some (.v (.int .i64 (((XC E q)[m]:Nat):Int))):=Am (by rw [List.getElem?_map,gE1 hlm];rfl)
 have hcle:=Re E (XC E q)[m]
 generalize (XC E q)[m]=c at *
 have gW:=Aq hw
 have gW2:(A7 (W.set c (w - 1)))[c]?=some (.v (.int .i64 (w - 1))):=Aq (gEc (by omega))
 have hb1:w - 1<=1000000:=by omega
 have hb0:0<=w - 1:=by omega
 by_cases he:w=1
 rotate_left
 ·have d5:((w - 1) == 0)=false:=by simp;omega
  have hnx:=hst1 he
  (refine Wu @d4 ?_;(repeat clear hK K);repeat refine kq fun K hK=>?_)
  refine WB ?_
  (refine Cn (an @gp (an @A4 (an @List.length_map.{0,0} (an @A5 (an @hWl (an @gW (an @AK (an @List.length_set.{0} (an @gW2 @d5))))))))) ?_;(repeat clear hK K);repeat refine kq fun K hK=>?_)
  refine WC ?_
  (refine Wt ?_;(repeat clear hK K);repeat refine kq fun K hK=>?_)
  refine WD ?_
  refine hK _ (m+1,Q,W.set c (w - 1)) ⟨by simp only;omega,hli,hqg,hnx⟩ (by simp only;omega) ?_
  exact WE
 have d5:((w - 1) == 0)=true:=by simp [he]
 have hnx:=hst2 he
 (refine Wu @d4 ?_;(repeat clear hK K);repeat refine kq fun K hK=>?_)
 refine WB ?_
 (refine Cn (an @gp (an @A4 (an @List.length_map.{0,0} (an @A5 (an @hWl (an @gW (an @AK (an @List.length_set.{0} (an @gW2 @d5))))))))) ?_;(repeat clear hK K);repeat refine kq fun K hK=>?_)
 refine WB ?_
 (refine Wu (an @List.length_map.{0,0} (an @List.set_cons_zero.{0} (an @List.set_cons_succ.{0} (an @List.take_succ_cons.{0} (an @List.take_zero.{0} (an @List.drop_zero.{0} (an @List.length_take.{0} (an @List.length_drop.{0} (an @List.length_append.{0} (an @A4 (an @Az (an @AN (an @Bm (an @A5 (an @AU (an @AE (an @B1 (an @AG @AM)))))))))))))))))) ?_;(repeat clear hK K);repeat refine kq fun K hK=>?_)
 refine WD ?_
 refine hK _ (m+1,Q++[c],W.set c (w - 1)) ⟨by simp only;omega,by simp only [List.length_append,List.length_singleton];omega,?_,hnx⟩ (by simp only;omega) ?_
 ·simp only
  rw [gE2,gEa hli,<- gE2]
  exact hqg
 refine Le.trans (A9 [0,3] rfl rfl) ?_
 (try simp only [List.set_nil,List.take_nil,List.take_zero,List.map_append,go_sem])
 (try simp only [Af])
 have htk2:(Q.map Int.ofNat).take Q.length=Q.map Int.ofNat:=gE7 (by simp)
 simp only [htk2,List.map_append,List.map_cons,List.map_nil,List.length_append,List.length_singleton]
 exact WE
end Go.Proofs.YtjijjfkalheokaaGreatDoor
