/- Lemmas. -/
import Derived.Test.YtbnabodoabimnaaGreatZk
import Derived.Test.YtbnabodoabimnaaGreatG45
import Derived.Test.YtbnabodoabimnaaGreatMK
import Derived.Test.YtbnabodoabimnaaGreatMI
import Derived.Test.YtbnabodoabimnaaGreatShlfB
import Derived.Shelf.Slices.SearchI
import Derived.Test.YtbnabodoabimnaaGreatNp2
namespace Go.Proofs.YtbnabodoabimnaaGreat
set_option linter.unusedVariables false
set_option linter.unusedSimpArgs false
open Go.RowKit
set_option maxRecDepth 100000
attribute [local go_sem] lga C.pl C.one

theorem NK (x y:Operand) (a:Ar):Gf Tryz.prog .neq 23 x y [.int .i64 a.1,.int .i64 a.2] [.int .i64 a.1,.int .i64 a.2] false=True:=by
 have h:=Rp x y a a
 rw [gEg (rfl:a=a)] at h
 exact h
theorem LI (r:List Ar) (hn:r.length<=1000000):FC Tryz.prog 61 [.a (.c (.t 2 (Aw r))),.a (.c (.t 2 (Aw r)))] [] (fun x o=>o=[]/\x=.b true):=by
 refine A7 Tryz.func61 rfl (by rw [Tryz.ntmps61];simp) ?_
 rw [Tryz.ntmps61]
 simp only [B4]
 have d0:((r.length:Int) != (r.length:Int))=false:=by simp
 (refine VW (an @A3 (an @Aq @d0)) ?_;(repeat clear hK K);repeat refine kq fun K hK=>?_)
 refine W3 ?_
 (refine VV ?_;(repeat clear hK K);repeat refine kq fun K hK=>?_)
 refine Ab (fun k:Nat=>{ tm:=[(0,.a (.c (.t 2 (Aw r)))),(1,.a (.c (.t 2 (Aw r)))),(5,.i k)],hp:=[],n:=26,pin:=0 }) (fun k=>k<=r.length) (fun k=>r.length - k) 0 ?_ ?_ ?_
 ·omega
 ·exact W5
 rintro k hk K hK
 by_cases hlt:k<r.length
 rotate_left
 ·have d1:decide ((k:Int)<(r.length:Int))=false:=by simpa using hlt
  (refine VW (an @d1 (an @A3 @Aq)) ?_;(repeat clear hK K);repeat refine kq fun K hK=>?_)
  refine W3 ?_
  (refine VZ ?_;repeat clear hK K)
  (refine VV ?_;(repeat clear hK K);repeat refine kq fun K hK=>?_)
  exact OP [] Tryz.results61
 have d1:decide ((k:Int)<(r.length:Int))=true:=by simpa using hlt
 have hat:=AS hlt
 have d2:(!decide (r[k]=r[k]))=false:=by simp
 (refine VW (an @d1 (an @A3 @Aq)) ?_;(repeat clear hK K);repeat refine kq fun K hK=>?_)
 refine W2 ?_
 (refine VV ?_;(repeat clear hK K);repeat refine kq fun K hK=>?_)
 (refine Af 8 [(0,0),(1,0),(2,0),(3,1),(4,0),(5,0),(6,0),(7,1),(8,2)] (by kernel_rfl) (by kernel_rfl) (by intro c st h;simp [Ad,Ay,Vl] at h) ?_)
 (repeat (first | ((first | refine QP rfl rfl rfl ?_ | refine QQ rfl rfl rfl ?_);intro K1 hK1;simp only [go_sem,hat,A3,Aq,NK,FP,decide_true,Bool.not_true,beq_self_eq_true,Bool.and_self,true_and];(first | refine hK1 _ ?_ | refine AE (hK1 _ ?_));clear hK1 K1) | (refine QR rfl rfl rfl rfl ?_;intro K1 hK1;simp only [go_sem,hat,A3,Aq,NK,FP,decide_true,Bool.not_true,beq_self_eq_true,Bool.and_self,true_and];(first | refine hK1 _ ?_ | refine AE (hK1 _ ?_));clear hK1 K1) | (refine IR ?_;refine hK _ ?_;clear hK K)))
 refine W3 ?_
 (refine VV ?_;(repeat clear hK K);repeat refine kq fun K hK=>?_)
 refine W4 ?_
 refine hK _ (k+1) (by omega) (by omega) ?_
 exact W5
theorem Sf {P:Program} {o:Oper} {st:ST} {K:ST->Prop} {t yt:TypeId} {x y:Operand} {a b:Bool} (hu:P.underlying t=some .bool) (hd:Vc o st.n=true) (ho:o.op=.binOp .neq t x y yt) (hx:st.ev x=.b a) (hy:st.ev y=.b b)
  (h:K (st.put o.dst (.b (!(a == b))))):Stp P o st K:=by
 refine GR (v:=.b (!(a == b))) hd (fun g w ρ hr hR=>?_) h
 have e1:=hR x
 have e2:=hR y
 rw [hx] at e1
 rw [hy] at e2
 have e1:ρ x=.bool a:=e1
 have e2:ρ y=.bool b:=e2
 refine ⟨.bool (!(a == b)),?_,rfl⟩
 obtain ⟨dst,op,ty,pos,af,gd⟩:=o
 simp only at ho
 subst ho
 simp only [execOp,e1,e2]
 simp [eqGuard,binOp,QT hu]
theorem NM {L:List Xh} {i:Nat} (h:i<L.length) {j:Nat} (hj:j<3):(tN L)[i*3+j]?=(Xo L[i])[j]?:=by
 rw [<- LF h,List.getElem?_take,if_pos hj,List.getElem?_drop]
theorem Ut {L:List Xh} {i:Nat} (h:i<L.length):(tN L)[i*3]?=some (.l 2 (Aw L[i].1)):=NM h (j:=0) (by decide)
theorem Uu {L:List Xh} {i:Nat} (h:i<L.length):(tN L)[i*3+1]?=some (.l 1 (Az L[i].2.1)):=NM h (j:=1) (by decide)
theorem Uv {L:List Xh} {i:Nat} (h:i<L.length):(tN L)[i*3+2]?=some (.v (.bool L[i].2.2)):=NM h (j:=2) (by decide)
def XI (N:List Xh):Prop:=N.length<=100000/\∀ x∈N,x.1.length<=100000/\x.2.1.length<=100000/\∀ s∈x.2.1,s.length<=100000
def aN (N:List Xh):AV:=.a (.c (.t 3 (tN N)))
set_option maxHeartbeats 4000000 in
theorem NN (N:List Xh) (hN:XI N):FC Tryz.prog 30 [aN N,aN N] [] (fun r o=>o=[]/\r=.b true):=by
 refine A7 Tryz.func30 rfl (by rw [Tryz.ntmps30];simp) ?_
 rw [Tryz.ntmps30]
 simp only [B4,aN]
 have d0:((N.length:Int) != (N.length:Int))=false:=bne_self_eq_false _
 have hNl:=hN.1
 (refine VW (an @Bz (an @Cw @d0)) ?_;(repeat clear hK K);repeat refine kq fun K hK=>?_)
 refine W3 ?_
 (refine VV ?_;(repeat clear hK K);repeat refine kq fun K hK=>?_)
 refine Ab (fun k:Nat=>{ tm:=[(0,.a (.c (.t 3 (tN N)))),(1,.a (.c (.t 3 (tN N)))),(5,.i k)],hp:=[],n:=56,pin:=0 }) (fun k=>k<=N.length) (fun k=>N.length - k) 0 ?_ ?_ ?_
 ·omega
 ·exact W5
 rintro k hk K hK
 by_cases hlt:k<N.length
 rotate_left
 ·have d1:decide ((k:Int)<(N.length:Int))=false:=by simpa using hlt
  (refine VW (an @Bz (an @Cw @d1)) ?_;(repeat clear hK K);repeat refine kq fun K hK=>?_)
  refine W3 ?_
  (refine VZ ?_;repeat clear hK K)
  (refine VV ?_;(repeat clear hK K);repeat refine kq fun K hK=>?_)
  exact OP [] Tryz.results30
 have d1:decide ((k:Int)<(N.length:Int))=true:=by simpa using hlt
 have c0:=Ut hlt
 have c1:=Uu hlt
 have c2:=Uv hlt
 have hb:=hN.2 _ (gE6 hlt)
 generalize N[k]=x at *
 obtain ⟨A,Y,dv⟩:=x
 simp only at c0 c1 c2 hb
 have hrow:=LI A (by omega)
 have hset:FC Tryz.prog 12 [AC Y,AC Y] [] (fun r o=>o=[]/\r=.b true):=(KQ Y Y (by omega) (by omega) (fun s h=>by have:=hb.2.2 s h;omega) (fun s h=>by have:=hb.2.2 s h;omega)).mono fun _ _ h=>⟨h.1,by rw [h.2];simp⟩
 simp only [AC] at hset
 (refine VW (an @Bz (an @Cw @d1)) ?_;(repeat clear hK K);repeat refine kq fun K hK=>?_)
 refine W2 ?_
 (refine VV ?_;(repeat clear hK K);repeat refine kq fun K hK=>?_)
 (refine C5 [] [(0,0,0),(1,0,0),(2,0,0),(3,0,0),(5,0,0),(6,0,0),(7,0,0),(8,0,0),(4,1,10),(9,1,10),(10,2,0),(11,0,0),(12,0,0),(13,0,0),(14,0,0),(15,0,0),(17,0,0),(18,0,0),(19,0,0),(20,0,0),(16,1,22),(21,1,22),(22,2,0),(23,0,0),(24,0,0),(25,0,0),(26,0,0),(27,0,0),(28,0,0),(29,0,0),(31,0,0),(32,0,0),(33,0,0),(34,0,0),(30,1,36),(35,1,36),(36,2,0),(37,0,0),(38,2,0)] (by kernel_rfl) (by kernel_rfl) (by intro c st h;simp [Ad,Ay,Vl] at h) ?_)
 (refine VU (an @Bz (an @Cw (an @c0 (an @c1 @c2)))) ?_;repeat clear hK K)
 (refine VI rfl rfl rfl ?_;intro K1 hK1;refine Sf (a:=dv) (b:=dv) Tryz.underlying4 rfl rfl (by simp only [go_sem]) (by simp only [go_sem]) ?_;simp only [go_sem,bne_self_eq_false];refine hK1 _ ?_;clear hK1 K1)
 (refine VU (an @Bz (an @Cw (an @c0 (an @c1 @c2)))) ?_;repeat clear hK K)
 (refine Mr rfl rfl rfl (by simp only [go_sem] <;> rfl) ?_;intro K1 hK1;refine Bv ?_;refine xv [] (hrow) ?_ ?_)
 ·rintro _ _ ⟨rfl,rfl⟩ i o hi hl;simp at hl
 rintro _ _ ⟨rfl,rfl⟩
 (refine W1 ?_;clear hK1 K1)
 (refine VU (an @Bz (an @Cw (an @c0 (an @c1 (an @c2 @Bool.not_true))))) ?_;repeat clear hK K)
 (refine Mr rfl rfl rfl (by simp only [go_sem] <;> rfl) ?_;intro K1 hK1;refine Bv ?_;refine xv [] (hset) ?_ ?_)
 ·rintro _ _ ⟨rfl,rfl⟩ i o hi hl;simp at hl
 rintro _ _ ⟨rfl,rfl⟩
 (refine W1 ?_;clear hK1 K1)
 (refine VU @Bool.not_true ?_;repeat clear hK K)
 (refine VI rfl rfl rfl ?_;intro K1 hK1;refine Bc rfl ?_;simp only [go_sem];(first | refine hK1 _ ?_ | refine AE (hK1 _ ?_));clear hK1 K1)
 (refine VT ?_;repeat clear hK K)
 refine W3 ?_
 (refine VV ?_;(repeat clear hK K);repeat refine kq fun K hK=>?_)
 refine W4 ?_
 refine hK _ (k+1) (by omega) (by omega) ?_
 exact W5
def XK (A:List Ar):List Int:=A.map (·.1)
theorem BS (A:List Ar):(XK A).length=A.length:=List.length_map _
theorem PH {A:List Ar} {k:Nat} (h:k<A.length):XK (A.take (k+1))=XK (A.take k)++[A[k].1]:=by
 unfold XK
 rw [gE8 h,List.map_append];rfl
set_option maxHeartbeats 1000000 in
theorem Qr (A:List Ar) (hA:A.length<=1000000):FC Tryz.prog 122 [.a (.c (.t 2 (Aw A)))] [] (fun r o=>o=[]/\r=Ap (XK A)):=by
 refine A7 Tryz.func122 rfl (by rw [Tryz.ntmps122];simp) ?_
 rw [Tryz.ntmps122]
 simp only [B4]
 (refine VW (an @A3 @Aq) ?_;(repeat clear hK K);repeat refine kq fun K hK=>?_)
 refine As (BJ 3 3 1 ?_) ?_
 ·simp only [go_sem]
 simp only [List.nil_append,List.length_nil]
 refine Ab (fun k:Nat=>{ tm:=[(3,.a (.c (.s 0 k))),(6,.a (.c (.t 2 (Aw A)))),(7,.i A.length),(8,.i k)],hp:=[.r ⟨3,1,true,A9 (XK (A.take k))⟩],n:=19,pin:=0 }) (fun k=>k<=A.length) (fun k=>A.length - k) 0 ?_ ?_ ?_
 ·omega
 ·have hc0:A9 (XK [])=[]:=rfl
  simp only [List.take_zero,hc0]
  exact W5
 rintro k hk K hK
 by_cases hlt:k<A.length
 ·have d1:decide ((k:Int)<(A.length:Int))=true:=by simpa using hlt
  have hat:=AS hlt
  have hnx:=PH hlt
  have hel:(XK (A.take k)).length=k:=by rw [BS,List.length_take];omega
  generalize XK (A.take k)=Q at *
  generalize A[k]=a at *
  obtain ⟨e,t⟩:=a
  simp only at hat hnx
  have ca:=UJ Q e (n:=k) hel
  (refine VW @d1 ?_;(repeat clear hK K);repeat refine kq fun K hK=>?_)
  refine W2 ?_
  (refine Cu (an @hat (an @A3 @Aq)) ?_;(repeat clear hK K);repeat refine kq fun K hK=>?_)
  (refine VW (an @A4 (an @hel @ca)) ?_;(repeat clear hK K);repeat refine kq fun K hK=>?_)
  refine W4 ?_
  refine hK _ (k+1) (by omega) (by omega) ?_
  rw [hnx]
  refine Le.trans (A8 [3] rfl rfl) ?_
  simp only [go_sem,A5]
  exact W5
 have d1:decide ((k:Int)<(A.length:Int))=false:=by simpa using hlt
 have hke:A.take k=A:=gE7 (by omega)
 have hkl:k=A.length:=by omega
 rw [hke]
 subst hkl
 have hfo:(Ac (XK A)).take A.length=Ac (XK A):=gE7 (by rw [A2,BS];exact Nat.le_refl _)
 (refine VW @d1 ?_;(repeat clear hK K);repeat refine kq fun K hK=>?_)
 refine W3 ?_
 (refine VZ ?_;repeat clear hK K)
 (refine As (B6 (r:=⟨3,1,true,A9 (XK A)⟩) 0 (Ac (XK A)) rfl (ES _) (show 0<(1:Nat) by omega)) ?_;simp only [ST.frz,A0.frz,AV.frz,C.frz,Nat.le_refl,List.set_cons_zero,List.set_cons_succ,go_sem,A2,BS,hfo])
 (refine VV ?_;(repeat clear hK K);repeat refine kq fun K hK=>?_)
 ((try refine Ak ?_);(try simp only [Ad,Ay]);refine AB (A8 [] rfl rfl) ?_;(try simp only [List.set_nil,List.take_nil,List.take_zero,List.map_append,go_sem]);((try refine Ak ?_);(try refine Aa ?_);(try simp only [Ad,Ay]);refine AN (by first | exact .inl rfl | exact .inr rfl) rfl ?_;simp only [Vm,Cq,Ck,Cx,Tryz.results122,go_sem,true_and,and_true,Ap]))
def LW (n:Int):Int->List Ar->Bool
 | _,[]=>true
 | l,a :: r=>if a.1<=l\/a.1 > 1025\/a.2<0\/a.2>=n then false else LW n a.1 r
set_option maxHeartbeats 4000000 in
theorem LJ (A:List Ar) (n:Int) (hA:A.length<=1000000):FC Tryz.prog 43 [.a (.c (.t 2 (Aw A))),.i n] [] (fun r o=>o=[]/\r=.b (LW n 0 A)):=by
 refine A7 Tryz.func43 rfl (by rw [Tryz.ntmps43];simp) ?_
 rw [Tryz.ntmps43]
 simp only [B4]
 (refine VW (an @A3 @Aq) ?_;(repeat clear hK K);repeat refine kq fun K hK=>?_)
 refine Ab (fun x:Nat × Int=>{ tm:=[(1,.i n),(5,.i x.2),(8,.a (.c (.t 2 (Aw A)))),(9,.i A.length),(10,.i x.1)],hp:=[],n:=37,pin:=0 }) (fun x=>x.1<=A.length/\LW n 0 A=LW n x.2 (A.drop x.1)) (fun x=>A.length - x.1) (0,0) ?_ ?_ ?_
 ·exact ⟨by omega,rfl⟩
 ·exact W5
 rintro ⟨k,l⟩ ⟨hk,hs⟩ K hK
 simp only at hk hs hK ⊢
 by_cases hlt:k<A.length
 rotate_left
 ·have d1:decide ((k:Int)<(A.length:Int))=false:=by simpa using hlt
  rw [List.drop_eq_nil_of_le (by omega)] at hs
  (refine VW @d1 ?_;(repeat clear hK K);repeat refine kq fun K hK=>?_)
  refine W3 ?_
  (refine VZ ?_;repeat clear hK K)
  (refine VV ?_;(repeat clear hK K);repeat refine kq fun K hK=>?_)
  refine W6 [] Tryz.results43 ?_
  rw [hs];rfl
 have d1:decide ((k:Int)<(A.length:Int))=true:=by simpa using hlt
 have hat:=AS hlt
 rw [List.drop_eq_getElem_cons hlt] at hs
 generalize A[k]=a at *
 obtain ⟨e,t⟩:=a
 simp only [LW] at hat hs
 (refine VW @d1 ?_;(repeat clear hK K);repeat refine kq fun K hK=>?_)
 refine W2 ?_
 by_cases hbad:e<=l\/e > 1025\/t<0\/t>=n
 rotate_left
 ·rw [if_neg hbad] at hs
  have b1:decide (e<=l)=false:=decide_eq_false (by omega)
  have b2:decide (e > 1025)=false:=decide_eq_false (by omega)
  have b3:decide (t<0)=false:=decide_eq_false (by omega)
  have b4:decide (t>=n)=false:=decide_eq_false (by omega)
  (refine Cu (an @hat (an @A3 (an @Aq (an @b1 (an @b2 (an @b3 @b4)))))) ?_;(repeat clear hK K);repeat refine kq fun K hK=>?_)
  refine W3 ?_
  (refine VV ?_;(repeat clear hK K);repeat refine kq fun K hK=>?_)
  refine W4 ?_
  refine hK _ (k+1,e) ⟨by simp only;omega,hs⟩ (by simp only;omega) ?_
  refine Le.trans (A8 [] rfl rfl) ?_
  simp only [go_sem]
  exact W5
 rw [if_pos hbad] at hs
 have hc:(decide (e<=l)=true/\1+1=2/\1+1=2/\1+1=2)\/(decide (e<=l)=false/\decide (e > 1025)=true/\1+1=2/\1+1=2)\/(decide (e<=l)=false/\decide (e > 1025)=false/\decide (t<0)=true/\1+1=2)\/(decide (e<=l)=false/\decide (e > 1025)=false/\decide (t<0)=false/\decide (t>=n)=true):=by
  simp only [decide_eq_true_iff,decide_eq_false_iff_not,and_true]
  omega
 rcases hc with ⟨b1,b2,b3,b4⟩ | ⟨b1,b2,b3,b4⟩ | ⟨b1,b2,b3,b4⟩ | ⟨b1,b2,b3,b4⟩
 all_goals
  (refine Cu (an @hat (an @A3 (an @Aq (an @b1 (an @b2 (an @b3 @b4)))))) ?_;(repeat clear hK K);repeat refine kq fun K hK=>?_)
  refine W2 ?_
  (refine VV ?_;(repeat clear hK K);repeat refine kq fun K hK=>?_)
  refine W6 [] Tryz.results43 ?_
  rw [hs]
def XL:Int->List Ar->Option Int
 | f,[]=>some f
 | f,a :: r=>if a.2 > f then none else XL (if a.2+1 > f then a.2+1 else f) r
def XM:Int->Nat->List Xh->Bool
 | _,_,[]=>true
 | f,i,x :: N=>if (i:Int)>=f then false else match XL f x.1 with
  | none=>false
  | some g=>XM g (i+1) N
set_option maxHeartbeats 4000000 in
theorem Sh (N:List Xh) (hN:N.length<=100000) (hA:∀ x∈N,x.1.length<=100000/\∀ a∈x.1,0<=a.2/\a.2<=1000000):FC Tryz.prog 45 [.a (.c (.t 3 (tN N)))] [] (fun r o=>o=[]/\r=.b (XM 1 0 N)):=by
 refine A7 Tryz.func45 rfl (by rw [Tryz.ntmps45];simp) ?_
 rw [Tryz.ntmps45]
 simp only [B4]
 (refine VW (an @Bz @Cw) ?_;(repeat clear hK K);repeat refine kq fun K hK=>?_)
 refine Ab (fun x:Nat × Int=>{ tm:=[(3,.i x.2),(8,.a (.c (.t 3 (tN N)))),(9,.i N.length),(10,.i x.1)],hp:=[],n:=36,pin:=0 }) (fun x=>x.1<=N.length/\1<=x.2/\x.2<=1000001/\XM 1 0 N=XM x.2 x.1 (N.drop x.1)) (fun x=>N.length - x.1) (0,1) ?_ ?_ ?_
 ·exact ⟨by omega,by decide,by decide,rfl⟩
 ·exact W5
 rintro ⟨k,f⟩ ⟨hk,hf1,hf2,hs⟩ K hK
 simp only at hk hf1 hf2 hs hK ⊢
 by_cases hlt:k<N.length
 rotate_left
 ·have d1:decide ((k:Int)<(N.length:Int))=false:=by simpa using hlt
  rw [List.drop_eq_nil_of_le (by omega)] at hs
  (refine VW @d1 ?_;(repeat clear hK K);repeat refine kq fun K hK=>?_)
  refine W3 ?_
  (refine VZ ?_;repeat clear hK K)
  (refine VV ?_;(repeat clear hK K);repeat refine kq fun K hK=>?_)
  refine W6 [] Tryz.results45 ?_
  rw [hs];rfl
 have d1:decide ((k:Int)<(N.length:Int))=true:=by simpa using hlt
 have hat:=LF hlt
 have hb:=hA _ (gE6 hlt)
 rw [List.drop_eq_getElem_cons hlt] at hs
 generalize N[k]=x at *
 obtain ⟨A,Y,dv⟩:=x
 simp only [XM,Xo] at hat hs hb
 have hKo:=hK
 (refine VW @d1 ?_;(repeat clear hK K);repeat refine kq fun K hK=>?_)
 refine W2 ?_
 by_cases hkf:(k:Int)>=f
 ·rw [if_pos hkf] at hs
  have b1:decide ((k:Int)>=f)=true:=gEg hkf
  (refine Cu (an @hat (an @Bz (an @Cw @b1))) ?_;(repeat clear hK K);repeat refine kq fun K hK=>?_)
  refine W2 ?_
  (refine VV ?_;(repeat clear hK K);repeat refine kq fun K hK=>?_)
  refine W6 [] Tryz.results45 ?_
  rw [hs]
 rw [if_neg hkf] at hs
 have b1:decide ((k:Int)>=f)=false:=decide_eq_false hkf
 (refine Cu (an @hat (an @Bz (an @Cw @b1))) ?_;(repeat clear hK K);repeat refine kq fun K hK=>?_)
 refine W3 ?_
 (refine VW (an @A3 @Aq) ?_;(repeat clear hK K);repeat refine kq fun K hK=>?_)
 refine Ab (fun x:Nat × Int=>{ tm:=[(3,.i x.2),(8,.a (.c (.t 3 (tN N)))),(9,.i N.length),(10,.i k),(19,.a (.c (.t 2 (Aw A)))),(20,.i A.length),(21,.i x.1)],hp:=[.r ⟨35,3,false,[.t 2 (Aw A),.t 1 (Az Y),.v (.bool dv)]⟩],n:=36,pin:=0 }) (fun x=>x.1<=A.length/\1<=x.2/\x.2<=1000001/\XL f A=XL x.2 (A.drop x.1)) (fun x=>A.length - x.1) (0,f) ?_ ?_ ?_
 ·exact ⟨by omega,hf1,hf2,rfl⟩
 ·exact W5
 rintro ⟨j,g⟩ ⟨hj,hg1,hg2,hg⟩ K hK
 simp only at hj hg1 hg2 hg hK ⊢
 by_cases hjl:j<A.length
 rotate_left
 ·have d2:decide ((j:Int)<(A.length:Int))=false:=by simpa using hjl
  rw [List.drop_eq_nil_of_le (by omega)] at hg
  simp only [XL] at hg
  rw [hg] at hs
  simp only at hs
  (refine VW @d2 ?_;(repeat clear hK K);repeat refine kq fun K hK=>?_)
  refine W3 ?_
  (refine VZ ?_;repeat clear hK K)
  (refine VV ?_;(repeat clear hK K);repeat refine kq fun K hK=>?_)
  refine W4 ?_
  refine hKo _ (k+1,g) ⟨by simp only;omega,hg1,hg2,hs⟩ (by simp only;omega) ?_
  refine Le.trans (A8 [] rfl rfl) ?_
  simp only [go_sem]
  exact W5
 have d2:decide ((j:Int)<(A.length:Int))=true:=by simpa using hjl
 have haj:=AS hjl
 have hab:=hb.2 _ (gE6 hjl)
 rw [List.drop_eq_getElem_cons hjl] at hg
 generalize A[j]=a at *
 obtain ⟨e,t⟩:=a
 simp only [XL] at haj hg hab
 (refine VW @d2 ?_;(repeat clear hK K);repeat refine kq fun K hK=>?_)
 refine W2 ?_
 by_cases ht:t > g
 ·rw [if_pos ht] at hg
  have b2:decide (t > g)=true:=gEg ht
  (refine Cu (an @haj (an @A3 (an @Aq @b2))) ?_;(repeat clear hK K);repeat refine kq fun K hK=>?_)
  refine W2 ?_
  (refine VV ?_;(repeat clear hK K);repeat refine kq fun K hK=>?_)
  refine W6 [] Tryz.results45 ?_
  rw [hs,hg]
 rw [if_neg ht] at hg
 have b2:decide (t > g)=false:=decide_eq_false ht
 (refine Cu (an @haj (an @A3 (an @Aq @b2))) ?_;(repeat clear hK K);repeat refine kq fun K hK=>?_)
 refine W3 ?_
 (refine VV ?_;(repeat clear hK K);repeat refine kq fun K hK=>?_)
 refine W4 ?_
 refine hK _ (j+1,if t+1 > g then t+1 else g) ⟨by simp only;omega,by simp only;split <;> omega,by simp only;split <;> omega,hg⟩ (by simp only;omega) ?_
 refine Le.trans (A8 [0] rfl rfl) ?_
 simp only [go_sem]
 exact W5
open Go.RowKit Go.Shelf
theorem Fp.drewN (w:World) (M:Nat->Prop):∀ q,Fp M w (w.drewN q):=fun q=>⟨rfl,rfl,rfl,Nat.le_refl _,fun _ _ _=>rfl,Nat.le_add_right _ _⟩
theorem TO {xs:List Int} (h:W9 xs):xs.Pairwise (·<=·):=h.imp fun h=>by omega
theorem NQ {g:Gh} {ℓ:Loc}:¬ Lv [] g ℓ:=by
 intro hl
 cases ℓ with
 | ob i=>rcases hl with ⟨r,e1,_⟩ | ⟨kv,e1⟩ <;> simp at e1
 | cl i j=>obtain ⟨r,_,_,e1,_⟩:=hl;simp at e1
theorem Uw {g:Gh} {hp:List Ob} {w:World} {a b:AV} {vals:List Value} (h:HQ g hp w [a,b] vals):∃ u v,vals=[u,v]/\AVR (CR g hp w) a u/\AVR (CR g hp w) b v:=by
 obtain ⟨h1,h2⟩:=h
 match vals,h1 with
 | [u,v],_=>
  obtain ⟨u',e1,r1⟩:=h2 0 a rfl
  obtain ⟨v',e2,r2⟩:=h2 1 b rfl
  simp at e1 e2
  subst e1;subst e2
  exact ⟨u,v,rfl,r1,r2⟩
theorem TP {M:Nat->Prop} {w:World} {xs:List Int} {b off:Nat} {us:Nat->Value} (h1:∀ (j:Nat) (t:Tr),(Ac xs)[j]?=some t->w.cell? ⟨b,off+j,none⟩=some (us j)) (h2:∀ (j:Nat) (t:Tr),(Ac xs)[j]?=some t->Rd M w t (us j)):
  ∀ j x,xs[j]?=some x->w.cell? ⟨b,off+j,none⟩=some (.int .i64 x):=by
 intro j x hx
 have ht:=Al hx
 rw [h1 j _ ht]
 have h3:=h2 j _ ht
 revert h3
 generalize us j=y
 intro h3
 cases h3
 rfl

def XN (xs:List Int) (x:Int):AV:=.tup [.c (.v (.int .i64 (xs.countP (·<x):Nat))),.c (.v (.bool (xs.contains x)))]
theorem Si (xs:List Int) (x:Int) (hn:xs.length<=140737488355328) (hx:W9 xs):FC Tryz.prog 149 [Ap xs,.i x] [] (fun r o=>o=[]/\r=XN xs x):=by
 by_cases h0:xs=[]
 ·subst h0
  refine A7 Tryz.func149 rfl (by rw [Tryz.ntmps149];simp) ?_
  rw [Tryz.ntmps149]
  simp only [B4,Ap]
  (refine VW @A2 ?_;(repeat clear hK K);repeat refine kq fun K hK=>?_)
  refine Ab (fun _:Unit=>{ tm:=[(0,.a (.c (.t 1 (Ac [])))),(1,.i x),(6,.i 0),(7,.i 0),(8,.i 0)],hp:=[],n:=54,pin:=0 }) (fun _=>True) (fun _=>0) () ?_ ?_ ?_
  ·trivial
  ·(refine Bh ?_;simp only [CS,go_sem,Ac,List.map_nil,Int.natCast_zero];try simp)
  rintro _ _ K hK
  (refine VV ?_;(repeat clear hK K);repeat refine kq fun K hK=>?_)
  (refine Ah ?_;intro X Y hX hY;simp only [go_sem,Int.lt_irrefl,decide_false])
  refine hY ?_
  clear hX hY X Y
  (refine VZ ?_;repeat clear hK K)
  have hl:decide ((0:Int)<0)=false:=by decide
  (refine VW @hl ?_;(repeat clear hK K);repeat refine kq fun K hK=>?_)
  refine W8 Tryz.results149 ?_
  rfl
 intro g w vals hr ha
 obtain ⟨u,v,rfl,hu,hv⟩:=Uw ha
 cases (show v=_ from hv)
 have hu:Rd (Ow [] g) w (.l 1 (Ac xs)) u:=hu
 generalize ht:Ac xs=ts at hu
 cases hu with
 | e A c=>exact absurd (by have:=congrArg List.length ht;rw [A2] at this;exact List.eq_nil_of_length_eq_zero this) h0
 | l _ _ b off n cp us hl hn0 hc hM hb h1 h2=>
  subst ht
  have hnl:xs.length=n:=by rw [A2] at hl;omega
  subst hnl
  have hcell:=TP h1 h2
  have:=Any.slices_BinarySearch_int Tryz.binS b off xs.length cp xs x w (Nat.le_refl _) (by omega) (fun j hj=>by
   rw [hcell j _ (gE1 hj)]
   simp [List.getD,hj]) (by rw [List.take_length];exact TO hx)
  refine (show Calls Tryz.prog 149 _ w _ from this).mono ?_
  rintro e w' ⟨rfl,q,rfl⟩
  rw [List.take_length]
  refine ⟨_,XN xs x,[],g,rfl,⟨rfl,rfl⟩,⟨fun b hb=>hr.ml b hb,fun ℓ hl=>absurd hl NQ,fun ℓ _ hl=>absurd hl NQ,fun id r e=>by simp at e,fun id kv e=>by simp at e,hr.gl.keep (Nat.le_refl _) (fun _ _ _=>rfl) (fun _ _ h=>h)⟩,⟨Nat.le_refl _,Ext.refl _ _⟩,fun ℓ hl=>absurd hl NQ,⟨_,rfl,rfl,fun i y hy=>?_⟩,Fp.drewN _ _ _⟩
  match i,hy with
  | 0,hy=>obtain rfl:=Option.some.inj hy;exact ⟨_,rfl,rfl⟩
  | 1,hy=>obtain rfl:=Option.some.inj hy;exact ⟨_,rfl,rfl⟩
  | i+2,hy=>simp at hy

theorem PI {xs:List Int} {k:Nat} (h:k<xs.length) (hA:W9 (xs.take k)) (hl:k=0\/∃ y,xs[k - 1]?=some y/\y<xs[k]):W9 (xs.take (k+1)):=by
 rw [gE8 h]
 refine List.pairwise_append.2 ⟨hA,List.pairwise_singleton _ _,fun y hy z hz=>?_⟩
 rw [List.mem_singleton.1 hz]
 obtain ⟨j,hj⟩:=List.mem_iff_getElem?.1 hy
 have hjk:j<k:=by
  have:=(List.getElem?_eq_some_iff.1 hj).1
  rw [List.length_take] at this;omega
 rcases hl with rfl | ⟨w,hw,hwl⟩
 ·omega
 have hjx:xs[j]?=some y:=by rw [List.getElem?_take,if_pos hjk] at hj;exact hj
 by_cases e:j=k - 1
 ·subst e
  rw [hjx] at hw
  cases hw
  exact hwl
 have hP:=List.pairwise_iff_getElem.1 hA j (k - 1) (by rw [List.length_take];omega) (by rw [List.length_take];omega) (by omega)
 simp only [List.getElem_take] at hP
 have e1:=(List.getElem?_eq_some_iff.1 hjx).2
 have e2:=(List.getElem?_eq_some_iff.1 hw).2
 omega
noncomputable def XO (xs all:List Int):Bool:=@decide (W9 xs/\∀ x∈xs,x∈all) (Classical.propDecidable _)
theorem G7 {xs all:List Int}:XO xs all=true↔W9 xs/\∀ x∈xs,x∈all:=@decide_eq_true_iff _ (Classical.propDecidable _)
set_option maxHeartbeats 4000000 in
theorem LK (xs all:List Int) (hx:xs.length<=1000000) (ha:all.length<=1000000) (hA:W9 all):FC Tryz.prog 123 [Ap xs,Ap all] [] (fun r o=>o=[]/\r=.b (XO xs all)):=by
 refine A7 Tryz.func123 rfl (by rw [Tryz.ntmps123];simp) ?_
 rw [Tryz.ntmps123]
 simp only [B4,Ap]
 (refine VW @A2 ?_;(repeat clear hK K);repeat refine kq fun K hK=>?_)
 refine Ab (fun k:Nat=>{ tm:=[(0,.a (.c (.t 1 (Ac xs)))),(1,.a (.c (.t 1 (Ac all)))),(9,.a (.c (.t 1 (Ac xs)))),(10,.i xs.length),(11,.i k)],hp:=[],n:=38,pin:=0 }) (fun k=>k<=xs.length/\W9 (xs.take k)/\∀ x∈xs.take k,x∈all) (fun k=>xs.length - k) 0 ?_ ?_ ?_
 ·exact ⟨by omega,by rw [List.take_zero];exact List.Pairwise.nil,by simp⟩
 ·exact W5
 rintro k ⟨hk,hk1,hk2⟩ K hK
 by_cases hlt:k<xs.length
 rotate_left
 ·have d1:decide ((k:Int)<(xs.length:Int))=false:=by simpa using hlt
  rw [gE7 (by omega)] at hk1 hk2
  (refine VW @d1 ?_;(repeat clear hK K);repeat refine kq fun K hK=>?_)
  refine W3 ?_
  (refine VZ ?_;repeat clear hK K)
  (refine VV ?_;(repeat clear hK K);repeat refine kq fun K hK=>?_)
  refine W6 [] Tryz.results123 ?_
  rw [G7.2 ⟨hk1,hk2⟩]
 have d1:decide ((k:Int)<(xs.length:Int))=true:=by simpa using hlt
 have hg:=gE1 hlt
 have gx:=Al hg
 have hbs:=Si all xs[k] (by omega) hA
 have hmem:=gE6 hlt
 have hat:=PI hlt hk1
 have htk:=gE8 hlt
 generalize xs[k]=e at *
 simp only [Ap,XN] at hbs
 (refine VW @d1 ?_;(repeat clear hK K);repeat refine kq fun K hK=>?_)
 refine W2 ?_
 (refine VW (an @gx @A2) ?_;(repeat clear hK K);repeat refine kq fun K hK=>?_)
 (refine W0 hbs ?_;intro K1 hK1)
 rintro _ _ ⟨rfl,rfl⟩
 (refine W1 ?_;clear hK1 K1)
 cases hc:all.contains e with
 | false=>
  have hno:XO xs all=false:=Bool.eq_false_iff.2 fun h=>by
   have:=(G7.1 h).2 e hmem
   rw [<- List.contains_iff_mem,hc] at this
   cases this
  (refine VW @Bool.not_false ?_;(repeat clear hK K);repeat refine kq fun K hK=>?_)
  refine W2 ?_
  (refine VV ?_;(repeat clear hK K);repeat refine kq fun K hK=>?_)
  refine W6 [] Tryz.results123 ?_
  rw [hno]
 | true=>
  have hin:e∈all:=List.contains_iff_mem.1 hc
  have hall:∀ x∈xs.take (k+1),x∈all:=fun x h=>by
   rw [htk] at h
   rcases List.mem_append.1 h with q | q
   ·exact hk2 x q
   rw [List.mem_singleton.1 q];exact hin
  by_cases h0:k=0
  ·have b0:decide ((k:Int) > 0)=false:=decide_eq_false (by omega)
   (refine VW (an @Bool.not_true @b0) ?_;(repeat clear hK K);repeat refine kq fun K hK=>?_)
   refine W3 ?_
   (refine VV ?_;(repeat clear hK K);repeat refine kq fun K hK=>?_)
   refine W4 ?_
   refine hK _ (k+1) ⟨by omega,hat (.inl h0),hall⟩ (by omega) ?_
   exact W5
  have b0:decide ((k:Int) > 0)=true:=gEg (by omega)
  have hg1:xs[k - 1]?=some xs[k - 1]:=gE1 (by omega)
  have gx1:=Al hg1
  have hgx:=hg1
  have hq:(k:Int) - 1=((k - 1:Nat):Int):=by omega
  have hql:k - 1<xs.length:=by omega
  have hno0:∀ y,xs[k - 1]?=some y->y>=e->XO xs all=false:=fun y hy hge=>Bool.eq_false_iff.2 fun h=>by
   have:=List.pairwise_iff_getElem.1 (G7.1 h).1 (k - 1) k hql hlt (by omega)
   have h2:=(List.getElem?_eq_some_iff.1 hg).2
   have h3:=(List.getElem?_eq_some_iff.1 hy).2
   omega
  obtain ⟨y,hy⟩:∃ y,y=xs[k - 1]:=⟨_,rfl⟩
  rw [<- hy] at gx1 hgx
  by_cases hge:y>=e
  ·have b1:decide (y>=e)=true:=gEg hge
   have hno:=hno0 y hgx hge
   (refine VW (an @Bool.not_true (an @b0 (an @hq (an @gx1 (an @A2 @b1))))) ?_;(repeat clear hK K);repeat refine kq fun K hK=>?_)
   refine W2 ?_
   (refine VV ?_;(repeat clear hK K);repeat refine kq fun K hK=>?_)
   refine W6 [] Tryz.results123 ?_
   rw [hno]
  have b1:decide (y>=e)=false:=decide_eq_false hge
  have hat2:=hat (.inr ⟨_,hgx,by omega⟩)
  (refine VW (an @Bool.not_true (an @b0 (an @hq (an @gx1 (an @A2 @b1))))) ?_;(repeat clear hK K);repeat refine kq fun K hK=>?_)
  refine W3 ?_
  (refine VV ?_;(repeat clear hK K);repeat refine kq fun K hK=>?_)
  refine W4 ?_
  refine hK _ (k+1) ⟨by omega,hat2,hall⟩ (by omega) ?_
  exact W5
set_option maxHeartbeats 2000000 in
theorem TQ (a b:List (List Int)) (ha:a.length<=1000000) (hb:b.length<=1000000) (hax:∀ s∈a,s.length<=1000000) (hbx:∀ s∈b,s.length<=1000000):FC Tryz.prog 65 [.a (.c (.t 1 (Az a))),.a (.c (.t 1 (Az b))),.a (.c (.f 66 []))] [] (fun r o=>o=[]/\r=.b (decide (a=b))):=by
 refine A7 Tryz.func65 rfl (by rw [Tryz.ntmps65];simp) ?_
 rw [Tryz.ntmps65]
 simp only [B4]
 have hcal:B3 Tryz.prog 66=true:=by kernel_rfl
 by_cases hl:a.length=b.length
 rotate_left
 ·have d0:((a.length:Int) != (b.length:Int))=true:=by simp;omega
  have hno:¬ a=b:=fun e=>hl (by rw [e])
  (refine VW (an @Ae @d0) ?_;(repeat clear hK K);repeat refine kq fun K hK=>?_)
  refine W2 ?_
  (refine VV ?_;(repeat clear hK K);repeat refine kq fun K hK=>?_)
  refine W6 [] Tryz.results65 ?_
  simp [hno]
 have d0:((a.length:Int) != (b.length:Int))=false:=by simp [hl]
 (refine VW (an @Ae @d0) ?_;(repeat clear hK K);repeat refine kq fun K hK=>?_)
 refine W3 ?_
 (refine VW @Ae ?_;(repeat clear hK K);repeat refine kq fun K hK=>?_)
 refine Ab (fun k:Nat=>{ tm:=[(1,.a (.c (.t 1 (Az b)))),(2,.a (.c (.f 66 []))),(15,.a (.c (.t 1 (Az a)))),(16,.i a.length),(17,.i k)],hp:=[],n:=32,pin:=0 }) (fun k=>k<=a.length/\a.take k=b.take k) (fun k=>a.length - k) 0 ?_ ?_ ?_
 ·exact ⟨by omega,rfl⟩
 ·exact W5
 rintro k ⟨hk,htk⟩ K hK
 by_cases hlt:k<a.length
 rotate_left
 ·have d1:decide ((k:Int)<(a.length:Int))=false:=by simpa using hlt
  have hab:a=b:=by rw [gE7 (by omega),gE7 (by omega)] at htk;exact htk
  (refine VW @d1 ?_;(repeat clear hK K);repeat refine kq fun K hK=>?_)
  refine W3 ?_
  (refine VZ ?_;repeat clear hK K)
  (refine VV ?_;(repeat clear hK K);repeat refine kq fun K hK=>?_)
  refine W6 [] Tryz.results65 ?_
  simp [hab]
 have d1:decide ((k:Int)<(a.length:Int))=true:=by simpa using hlt
 have hlb:k<b.length:=by omega
 have hga:=gE1 hlt
 have hgb:=gE1 hlb
 have ga:=AR hga
 have gb:=AR hgb
 have t1:=gE8 hlt
 have t2:=gE8 hlb
 have heq:=Hb a[k] b[k] (by have:=hax _ (gE6 hlt);omega) (by have:=hbx _ (gE6 hlb);omega)
 generalize a[k]=x at *
 generalize b[k]=y at *
 simp only [Ap] at heq
 (refine VW @d1 ?_;(repeat clear hK K);repeat refine kq fun K hK=>?_)
 refine W2 ?_
 (refine VW (an @ga (an @gb @Ae)) ?_;(repeat clear hK K);repeat refine kq fun K hK=>?_)
 (refine W0 heq ?_;intro K1 hK1)
 rintro _ _ ⟨rfl,rfl⟩
 (refine W1 ?_;clear hK1 K1)
 by_cases hxy:x=y
 ·have b1:decide (x=y)=true:=gEg hxy
  (refine VW (an @b1 @Bool.not_true) ?_;(repeat clear hK K);repeat refine kq fun K hK=>?_)
  refine W3 ?_
  (refine VV ?_;(repeat clear hK K);repeat refine kq fun K hK=>?_)
  refine W4 ?_
  refine hK _ (k+1) ⟨by omega,by rw [t1,t2,htk,hxy]⟩ (by omega) ?_
  exact W5
 have b1:decide (x=y)=false:=decide_eq_false hxy
 have hno:¬ a=b:=fun e=>by
  subst e
  rw [hga] at hgb
  exact hxy (Option.some.inj hgb)
 (refine VW (an @b1 @Bool.not_false) ?_;(repeat clear hK K);repeat refine kq fun K hK=>?_)
 refine W2 ?_
 (refine VV ?_;(repeat clear hK K);repeat refine kq fun K hK=>?_)
 refine W6 [] Tryz.results65 ?_
 simp [hno]
def XP (s:List Int):Bool:=match s with | []=>true | e :: _=>e == 1
def XQ (A:List Ar) (Y:List (List Int)):Prop:=Y.length<=1024/\(∀ s∈Y,XO s (XK A)=true/\¬ (1<s.length/\1∈s))/\(decide (1∈XK A) && Y.all fun s=>!XP s)=false/\D2 Y=Y
noncomputable def XR (A:List Ar) (Y:List (List Int)):Bool:=@decide (XQ A Y) (Classical.propDecidable _)
theorem Hq {A:List Ar} {Y:List (List Int)}:XR A Y=true↔XQ A Y:=@decide_eq_true_iff _ (Classical.propDecidable _)
theorem It {A:List Ar} {Y:List (List Int)} (h:¬ XQ A Y):XR A Y=false:=Bool.eq_false_iff.2 fun q=>h (Hq.1 q)
theorem Iu (s:List Int):(((s.length:Int) == 0)=true/\XP s=true)\/(((s.length:Int) == 0)=false/\0<s.length/\∃ e,(Ac s)[0]?=some (.v (.int .i64 e))/\(e == 1)=XP s):=by
 cases s with
 | nil=>exact .inl ⟨rfl,rfl⟩
 | cons e r=>exact .inr ⟨by simp;omega,by simp,e,rfl,rfl⟩
set_option maxHeartbeats 8000000 in
theorem Sj (A:List Ar) (V:List (List Int)) (dv:Bool) (hA:A.length<=1000000) (hAs:W9 (XK A)) (hVl:V.length<=1000000) (hVs:∀ s∈V,s.length<=1000000):FC Tryz.prog 85 [.a (.g [.t 2 (Aw A),.t 1 (Az V),.v (.bool dv)])] [] (fun r o=>o=[]/\r=.b (XR A V)):=by
 refine A7 Tryz.func85 rfl (by rw [Tryz.ntmps85];simp) ?_
 rw [Tryz.ntmps85]
 simp only [B4]
 by_cases h10:V.length > 1024
 ·have d0:decide ((V.length:Int) > 1024)=true:=gEg (by omega)
  (refine VW (an @Ae @d0) ?_;(repeat clear hK K);repeat refine kq fun K hK=>?_)
  refine W2 ?_
  (refine VV ?_;(repeat clear hK K);repeat refine kq fun K hK=>?_)
  refine W6 [] Tryz.results85 ?_
  rw [It fun h=>by have:=h.1;omega]
 have d0:decide ((V.length:Int) > 1024)=false:=decide_eq_false (by omega)
 have hev:=Qr A hA
 have hct:=Et (XK A) 1 (by rw [BS];omega)
 obtain ⟨L,hL⟩:∃ L,XK A=L:=⟨_,rfl⟩
 have hLl:L.length<=1000000:=by rw [<- hL,BS];exact hA
 rw [hL] at hev hct hAs
 simp only [Ap] at hev hct
 (refine VW (an @Ae @d0) ?_;(repeat clear hK K);repeat refine kq fun K hK=>?_)
 refine W3 ?_
 (refine VV ?_;(repeat clear hK K);repeat refine kq fun K hK=>?_)
 (refine W0 hev ?_;intro K1 hK1)
 rintro _ _ ⟨rfl,rfl⟩
 (refine W1 ?_;clear hK1 K1)
 (refine VV ?_;(repeat clear hK K);repeat refine kq fun K hK=>?_)
 (refine W0 hct ?_;intro K1 hK1)
 rintro _ _ ⟨rfl,rfl⟩
 (refine W1 ?_;clear hK1 K1)
 (refine VW @Ae ?_;(repeat clear hK K);repeat refine kq fun K hK=>?_)
 refine Ab (fun k:Nat=>{ tm:=[(1,.a (.c (.p 0 0))),(3,.a (.c (.t 1 (Ac L)))),(4,.b (decide (1∈L) && (V.take k).all fun s=>!XP s)),(17,.a (.c (.t 1 (Az V)))),(18,.i V.length),(19,.i k)],hp:=[.r ⟨35,3,false,[.t 2 (Aw A),.t 1 (Az V),.v (.bool dv)]⟩],n:=56,pin:=0 }) (fun k=>k<=V.length/\∀ s∈V.take k,XO s L=true/\¬ (1<s.length/\1∈s)) (fun k=>V.length - k) 0 ?_ ?_ ?_
 ·exact ⟨by omega,by simp⟩
 ·simp only [List.take_zero,List.all_nil,Bool.and_true]
  exact W5
 rintro k ⟨hk,hok⟩ K hK
 by_cases hlt:k<V.length
 rotate_left
 ·have d1:decide ((k:Int)<(V.length:Int))=false:=by simpa using hlt
  have hke:V.take k=V:=gE7 (by omega)
  rw [hke] at hok ⊢
  have hvb:∀ y∈V,y.length<=100000000:=fun y hy=>by have:=hVs y hy;omega
  have hmn:=KM V hVl hvb
  have hml:=Es V
  have heq:=TQ (D2 V) V (by omega) hVl (fun y hy=>hVs y (Ca hy)) hVs
  simp only [AC] at hmn
  cases htk:(decide (1∈L) && V.all fun s=>!XP s) with
  | true=>
   (refine VW @d1 ?_;(repeat clear hK K);repeat refine kq fun K hK=>?_)
   refine W3 ?_
   (refine VZ ?_;repeat clear hK K)
   (refine VV ?_;(repeat clear hK K);repeat refine kq fun K hK=>?_)
   (refine C5 [] [(0,0,0),(1,0,0),(2,0,0),(3,0,0),(6,0,0),(4,1,5),(7,1,8),(5,2,0),(8,2,0),(9,0,0),(10,2,0)] (by kernel_rfl) (by kernel_rfl) (by intro c st h;simp [Ad,Ay,Vl] at h) ?_)
   (refine VU @Bool.not_true ?_;repeat clear hK K)
   (refine VI rfl rfl rfl ?_;intro K1 hK1;refine Bc rfl ?_;simp only [go_sem];(first | refine hK1 _ ?_ | refine AE (hK1 _ ?_));clear hK1 K1)
   (refine VT ?_;repeat clear hK K)
   (refine VV ?_;(repeat clear hK K);repeat refine kq fun K hK=>?_)
   refine W6 [] Tryz.results85 ?_
   rw [It fun h=>by have:=h.2.2.1;rw [hL,htk] at this;cases this]
  | false=>
   (refine VW @d1 ?_;(repeat clear hK K);repeat refine kq fun K hK=>?_)
   refine W3 ?_
   (refine VZ ?_;repeat clear hK K)
   (refine VV ?_;(repeat clear hK K);repeat refine kq fun K hK=>?_)
   (refine C5 [] [(0,0,0),(1,0,0),(2,0,0),(3,0,0),(6,0,0),(4,1,5),(7,1,8),(5,2,0),(8,2,0),(9,0,0),(10,2,0)] (by kernel_rfl) (by kernel_rfl) (by intro c st h;simp [Ad,Ay,Vl] at h) ?_)
   (refine VU @Bool.not_false ?_;repeat clear hK K)
   (refine Mr rfl rfl rfl (by simp only [go_sem] <;> rfl) ?_;intro K1 hK1;refine Bv ?_;refine xv [] (hmn) ?_ ?_)
   ·rintro _ _ ⟨rfl,rfl⟩ i o hi hl;simp at hl
   rintro _ _ ⟨rfl,rfl⟩
   (refine W1 ?_;clear hK1 K1)
   (refine VT ?_;repeat clear hK K)
   (refine Mr rfl rfl rfl (by simp only [go_sem] <;> rfl) ?_;intro K1 hK1;refine Bv ?_;refine xv [] (heq) ?_ ?_)
   ·rintro _ _ ⟨rfl,rfl⟩ i o hi hl;simp at hl
   rintro _ _ ⟨rfl,rfl⟩
   (refine W1 ?_;clear hK1 K1)
   (refine VT ?_;repeat clear hK K)
   (refine VI rfl rfl rfl ?_;intro K1 hK1;refine Bc rfl ?_;simp only [go_sem];(first | refine hK1 _ ?_ | refine AE (hK1 _ ?_));clear hK1 K1)
   (refine VT ?_;repeat clear hK K)
   (refine VV ?_;(repeat clear hK K);repeat refine kq fun K hK=>?_)
   refine W6 [] Tryz.results85 ?_
   have hacb:XR A V=decide (D2 V=V):=by
    by_cases hm:D2 V=V
    rotate_left
    ·rw [decide_eq_false hm]
     exact It fun h=>hm h.2.2.2
    rw [gEg hm]
    exact Hq.2 ⟨by omega,fun s hs=>by rw [hL];exact hok s hs,by rw [hL];exact htk,hm⟩
   rw [hacb]
 have d1:decide ((k:Int)<(V.length:Int))=true:=by simpa using hlt
 have hg:=gE1 hlt
 have gV:=AR hg
 have hTk:V.take (k+1)=V.take k++[V[k]]:=gE8 hlt
 have hmem:=gE6 hlt
 have hsl:=hVs _ hmem
 have hnx:(decide (1∈L) && (V.take (k+1)).all fun s=>!XP s)=((decide (1∈L) && (V.take k).all fun s=>!XP s) && !XP V[k]):=by rw [hTk,List.all_append,Bool.and_assoc];simp
 generalize (decide (1∈L) && (V.take k).all fun s=>!XP s)=tk at *
 generalize V[k]=s at *
 have hwi:=LK s L hsl hLl hAs
 have hco:=Et s 1 (by omega)
 simp only [Ap] at hwi hco
 (refine VW @d1 ?_;(repeat clear hK K);repeat refine kq fun K hK=>?_)
 refine W2 ?_
 (refine VW (an @gV @Ae) ?_;(repeat clear hK K);repeat refine kq fun K hK=>?_)
 (refine W0 hwi ?_;intro K1 hK1)
 rintro _ _ ⟨rfl,rfl⟩
 (refine W1 ?_;clear hK1 K1)
 cases hw:XO s L with
 | false=>
  (refine VW @Bool.not_false ?_;(repeat clear hK K);repeat refine kq fun K hK=>?_)
  refine W2 ?_
  (refine VV ?_;(repeat clear hK K);repeat refine kq fun K hK=>?_)
  refine W6 [] Tryz.results85 ?_
  rw [It fun h=>by have:=(h.2.1 s hmem).1;rw [hL,hw] at this;cases this]
 | true=>
  have hcase:(decide ((s.length:Int) > 1)=true/\1<s.length)\/(decide ((s.length:Int) > 1)=false/\¬ 1<s.length):=by
   by_cases h:1<s.length
   ·exact .inl ⟨gEg (by omega),h⟩
   exact .inr ⟨decide_eq_false (by omega),h⟩
  have hgo:∀ h:¬ (1<s.length/\1∈s),∀ s'∈V.take (k+1),XO s' L=true/\¬ (1<s'.length/\1∈s'):=fun h s' hs'=>by
   rw [hTk] at hs'
   rcases List.mem_append.1 hs' with q | q
   ·exact hok s' q
   rw [List.mem_singleton.1 q];exact ⟨hw,h⟩
  rcases hcase with ⟨b1,hl1⟩ | ⟨b1,hl1⟩
  rotate_left
  ·(refine VW (an @Bool.not_true (an @A2 @b1)) ?_;(repeat clear hK K);repeat refine kq fun K hK=>?_)
   refine W3 ?_
   have hgn:=hgo (fun q=>hl1 q.1)
   rcases Iu s with ⟨z0,hh⟩ | ⟨z0,hpos,e,ge,hh⟩
   ·rw [hh,Bool.not_true,Bool.and_false] at hnx
    (refine VW (an @A2 @z0) ?_;(repeat clear hK K);repeat refine kq fun K hK=>?_)
    refine W2 ?_
    (refine VV ?_;(repeat clear hK K);repeat refine kq fun K hK=>?_)
    refine W4 ?_
    refine hK _ (k+1) ⟨by omega,hgn⟩ (by omega) ?_
    rw [hnx]
    exact W5
   cases hv:XP s with
   | true=>
    rw [hv] at hh
    rw [hv,Bool.not_true,Bool.and_false] at hnx
    (refine VW (an @A2 (an @z0 (an @Int.toNat_zero (an @ge @hh)))) ?_;(repeat clear hK K);repeat refine kq fun K hK=>?_)
    refine W2 ?_
    (refine VV ?_;(repeat clear hK K);repeat refine kq fun K hK=>?_)
    refine W4 ?_
    refine hK _ (k+1) ⟨by omega,hgn⟩ (by omega) ?_
    rw [hnx]
    exact W5
   | false=>
    rw [hv] at hh
    rw [hv,Bool.not_false,Bool.and_true] at hnx
    (refine VW (an @A2 (an @z0 (an @Int.toNat_zero (an @ge @hh)))) ?_;(repeat clear hK K);repeat refine kq fun K hK=>?_)
    refine W3 ?_
    (refine VV ?_;(repeat clear hK K);repeat refine kq fun K hK=>?_)
    refine W4 ?_
    refine hK _ (k+1) ⟨by omega,hgn⟩ (by omega) ?_
    rw [hnx]
    exact W5
  (refine VW (an @Bool.not_true (an @A2 @b1)) ?_;(repeat clear hK K);repeat refine kq fun K hK=>?_)
  (refine AY rfl rfl (by simp only [go_sem] <;> rfl) ?_;intro K1 hK1;refine (Av (ids:=[]) (hco) rfl rfl (by simp only [go_sem]) (by kernel_rfl) (by (simp only [List.append_nil,go_sem]) <;> rfl) ?_).stp)
  rintro _ _ ⟨rfl,rfl⟩
  (refine W1 ?_;clear hK1 K1)
  by_cases h1s:(1:Int)∈s
  ·have b2:decide ((1:Int)∈s)=true:=gEg h1s
   (refine VW @b2 ?_;(repeat clear hK K);repeat refine kq fun K hK=>?_)
   refine W2 ?_
   (refine VV ?_;(repeat clear hK K);repeat refine kq fun K hK=>?_)
   refine W6 [] Tryz.results85 ?_
   rw [It fun h=>(h.2.1 s hmem).2 ⟨hl1,h1s⟩]
  have b2:decide ((1:Int)∈s)=false:=decide_eq_false h1s
  (refine VW @b2 ?_;(repeat clear hK K);repeat refine kq fun K hK=>?_)
  refine W3 ?_
  have hgn:=hgo (fun q=>h1s q.2)
  rcases Iu s with ⟨z0,hh⟩ | ⟨z0,hpos,e,ge,hh⟩
  ·rw [hh,Bool.not_true,Bool.and_false] at hnx
   (refine VW (an @A2 @z0) ?_;(repeat clear hK K);repeat refine kq fun K hK=>?_)
   refine W2 ?_
   (refine VV ?_;(repeat clear hK K);repeat refine kq fun K hK=>?_)
   refine W4 ?_
   refine hK _ (k+1) ⟨by omega,hgn⟩ (by omega) ?_
   rw [hnx]
   exact W5
  cases hv:XP s with
  | true=>
   rw [hv] at hh
   rw [hv,Bool.not_true,Bool.and_false] at hnx
   (refine VW (an @A2 (an @z0 (an @Int.toNat_zero (an @ge @hh)))) ?_;(repeat clear hK K);repeat refine kq fun K hK=>?_)
   refine W2 ?_
   (refine VV ?_;(repeat clear hK K);repeat refine kq fun K hK=>?_)
   refine W4 ?_
   refine hK _ (k+1) ⟨by omega,hgn⟩ (by omega) ?_
   rw [hnx]
   exact W5
  | false=>
   rw [hv] at hh
   rw [hv,Bool.not_false,Bool.and_true] at hnx
   (refine VW (an @A2 (an @z0 (an @Int.toNat_zero (an @ge @hh)))) ?_;(repeat clear hK K);repeat refine kq fun K hK=>?_)
   refine W3 ?_
   (refine VV ?_;(repeat clear hK K);repeat refine kq fun K hK=>?_)
   refine W4 ?_
   refine hK _ (k+1) ⟨by omega,hgn⟩ (by omega) ?_
   rw [hnx]
   exact W5
noncomputable def XT (x:Xh) (m:Int):Bool:=if m=1 then x.2.1.isEmpty && !x.2.2 else if m=2 then !x.2.2 && XR x.1 x.2.1 else if x.2.2=true then x.1.isEmpty && x.2.1.isEmpty else !x.2.1.isEmpty && XR x.1 x.2.1
theorem Qs {α:Type} (l:List α):((l.length:Int) == 0)=l.isEmpty:=by cases l <;> simp;omega
theorem TR {α:Type} (l:List α):decide ((l.length:Int) > 0)=!l.isEmpty:=by cases l <;> simp
set_option maxHeartbeats 8000000 in
theorem Sk (A:List Ar) (V:List (List Int)) (dv:Bool) (m:Int) (hA:A.length<=1000000) (hAs:W9 (XK A)) (hVl:V.length<=1000000) (hVs:∀ s∈V,s.length<=1000000):FC Tryz.prog 44 [.a (.g [.t 2 (Aw A),.t 1 (Az V),.v (.bool dv)]),.i m] [] (fun r o=>o=[]/\r=.b (XT (A,V,dv) m)):=by
 refine A7 Tryz.func44 rfl (by rw [Tryz.ntmps44];simp) ?_
 rw [Tryz.ntmps44]
 simp only [B4]
 have hac:=Sj A V dv hA hAs hVl hVs
 have eV:=Qs V
 have gV:=TR V
 have eA:=Qs A
 have hvs:XT (A,V,dv) m=if m=1 then V.isEmpty && !dv else if m=2 then !dv && XR A V else if dv=true then A.isEmpty && V.isEmpty else !V.isEmpty && XR A V:=rfl
 generalize XR A V=ac at *
 by_cases h1:m=1
 ·have b1:(m == 1)=true:=by simpa using h1
  rw [if_pos h1] at hvs
  cases hE:V.isEmpty
  all_goals
   rw [hE] at eV hvs
   (refine VW @b1 ?_;(repeat clear hK K);repeat refine kq fun K hK=>?_)
   refine W2 ?_
   (refine VW (an @Ae @eV) ?_;(repeat clear hK K);repeat refine kq fun K hK=>?_)
   refine W6 [] Tryz.results44 ?_
   rw [hvs];simp
 have b1:(m == 1)=false:=by simpa using h1
 rw [if_neg h1] at hvs
 by_cases h2:m=2
 ·have b2:(m == 2)=true:=by simpa using h2
  rw [if_pos h2] at hvs
  cases dv with
  | true=>
   (refine VW @b1 ?_;(repeat clear hK K);repeat refine kq fun K hK=>?_)
   refine W3 ?_
   (refine VW @b2 ?_;(repeat clear hK K);repeat refine kq fun K hK=>?_)
   refine W2 ?_
   (refine VW @Bool.not_true ?_;(repeat clear hK K);repeat refine kq fun K hK=>?_)
   refine W6 [] Tryz.results44 ?_
   rw [hvs];simp
  | false=>
   (refine VW @b1 ?_;(repeat clear hK K);repeat refine kq fun K hK=>?_)
   refine W3 ?_
   (refine VW @b2 ?_;(repeat clear hK K);repeat refine kq fun K hK=>?_)
   refine W2 ?_
   (refine VW @Bool.not_false ?_;(repeat clear hK K);repeat refine kq fun K hK=>?_)
   (refine AY rfl rfl (by simp only [go_sem] <;> rfl) ?_;intro K1 hK1;refine (Av (ids:=[]) (hac) rfl rfl (by simp only [go_sem]) (by kernel_rfl) (by (simp only [List.append_nil,go_sem]) <;> rfl) ?_).stp)
   rintro _ _ ⟨rfl,rfl⟩
   (refine W1 ?_;clear hK1 K1)
   (refine VV ?_;(repeat clear hK K);repeat refine kq fun K hK=>?_)
   refine W6 [] Tryz.results44 ?_
   rw [hvs];simp
 have b2:(m == 2)=false:=by simpa using h2
 rw [if_neg h2] at hvs
 cases dv with
 | true=>
  rw [if_pos rfl] at hvs
  cases hE:V.isEmpty
  all_goals
   rw [hE] at eV hvs
   cases hE2:A.isEmpty
   all_goals
    rw [hE2] at eA hvs
    (refine VW @b1 ?_;(repeat clear hK K);repeat refine kq fun K hK=>?_)
    refine W3 ?_
    (refine VW @b2 ?_;(repeat clear hK K);repeat refine kq fun K hK=>?_)
    refine W3 ?_
    (refine VV ?_;(repeat clear hK K);repeat refine kq fun K hK=>?_)
    refine W2 ?_
    (refine VW (an @A3 (an @Aq (an @Ae (an @eA @eV)))) ?_;(repeat clear hK K);repeat refine kq fun K hK=>?_)
    refine W6 [] Tryz.results44 ?_
    rw [hvs];simp
 | false=>
  rw [if_neg (by decide)] at hvs
  cases hE:V.isEmpty with
  | true=>
   rw [hE] at gV hvs
   (refine VW @b1 ?_;(repeat clear hK K);repeat refine kq fun K hK=>?_)
   refine W3 ?_
   (refine VW @b2 ?_;(repeat clear hK K);repeat refine kq fun K hK=>?_)
   refine W3 ?_
   (refine VV ?_;(repeat clear hK K);repeat refine kq fun K hK=>?_)
   refine W3 ?_
   (refine VW (an @Ae (an @gV @Bool.not_true)) ?_;(repeat clear hK K);repeat refine kq fun K hK=>?_)
   refine W6 [] Tryz.results44 ?_
   rw [hvs];simp
  | false=>
   rw [hE] at gV hvs
   (refine VW @b1 ?_;(repeat clear hK K);repeat refine kq fun K hK=>?_)
   refine W3 ?_
   (refine VW @b2 ?_;(repeat clear hK K);repeat refine kq fun K hK=>?_)
   refine W3 ?_
   (refine VV ?_;(repeat clear hK K);repeat refine kq fun K hK=>?_)
   refine W3 ?_
   (refine VW (an @Ae (an @gV @Bool.not_false)) ?_;(repeat clear hK K);repeat refine kq fun K hK=>?_)
   (refine AY rfl rfl (by simp only [go_sem] <;> rfl) ?_;intro K1 hK1;refine (Av (ids:=[]) (hac) rfl rfl (by simp only [go_sem]) (by kernel_rfl) (by (simp only [List.append_nil,go_sem]) <;> rfl) ?_).stp)
   rintro _ _ ⟨rfl,rfl⟩
   (refine W1 ?_;clear hK1 K1)
   (refine VV ?_;(repeat clear hK K);repeat refine kq fun K hK=>?_)
   refine W6 [] Tryz.results44 ?_
   rw [hvs];simp
theorem KT {n:Int}:∀ {A:List Ar} {l:Int},LW n l A=true->W9 (XK A)/\∀ a∈A,l<a.1/\a.1<=1025/\0<=a.2/\a.2<n
 | [],_,_=>⟨List.Pairwise.nil,by simp⟩
 | a :: A,l,h=>by
  rw [LW] at h
  split at h
  ·cases h
  ·rename_i hn
   obtain ⟨h1,h2⟩:=KT h
   refine ⟨List.pairwise_cons.2 ⟨fun e he=>?_,h1⟩,fun b hb=>?_⟩
   ·obtain ⟨b,hb,rfl⟩:=List.mem_map.1 he
    exact (h2 b hb).1
   ·rcases List.mem_cons.1 hb with rfl | hb
    ·omega
    ·have:=h2 b hb;omega
def Fe (L:List Xh):Nat:=(L.map fun x=>x.1.length).sum
theorem Sm (L:List Xh) (k:Nat):Fe (L.take k)<=Fe L:=by
 have h:=List.take_append_drop k L
 have:Fe L=Fe (L.take k)+Fe (L.drop k):=by
  conv=>lhs;rw [<- h]
  unfold Fe
  rw [List.map_append,List.sum_append]
 omega
theorem NR {L:List Xh} {k:Nat} (h:k<L.length):Fe (L.take (k+1))=Fe (L.take k)+L[k].1.length:=by
 rw [gE8 h]
 unfold Fe
 rw [List.map_append,List.sum_append];simp
def vaP (N:List Xh) (m:Int):Prop:=Fy m=true/\1<=N.length/\N.length<=4096/\Fe N<=262144/\(∀ x∈N,LW N.length 0 x.1=true/\XT x m=true)/\XM 1 0 N=true
noncomputable def XU (N:List Xh) (m:Int):Bool:=@decide (vaP N m) (Classical.propDecidable _)
theorem Hr {N:List Xh} {m:Int}:XU N m=true↔vaP N m:=@decide_eq_true_iff _ (Classical.propDecidable _)
theorem G8 {N:List Xh} {m:Int} (h:¬ vaP N m):XU N m=false:=Bool.eq_false_iff.2 fun q=>h (Hr.1 q)
set_option maxHeartbeats 8000000 in
theorem Sn (N:List Xh) (m:Int) (hN:XI N):FC Tryz.prog 18 [aN N,.i m] [] (fun r o=>o=[]/\r=.b (XU N m)):=by
 refine A7 Tryz.func18 rfl (by rw [Tryz.ntmps18];simp) ?_
 rw [Tryz.ntmps18]
 simp only [B4,aN]
 have hNl:=hN.1
 (refine VV ?_;(repeat clear hK K);repeat refine kq fun K hK=>?_)
 (refine W0 (Iq m) ?_;intro K1 hK1)
 rintro _ _ ⟨rfl,rfl⟩
 (refine W1 ?_;clear hK1 K1)
 cases hm:Fy m with
 | false=>
  (refine VW @Bool.not_false ?_;(repeat clear hK K);repeat refine kq fun K hK=>?_)
  refine W2 ?_
  (refine VV ?_;(repeat clear hK K);repeat refine kq fun K hK=>?_)
  refine W6 [] Tryz.results18 ?_
  rw [G8 fun h=>by have:=h.1;rw [hm] at this;cases this]
 | true=>
  by_cases hl1:N.length<1
  ·have b1:decide ((N.length:Int)<1)=true:=gEg (by omega)
   (refine VW (an @Bool.not_true (an @Bz (an @Cw @b1))) ?_;(repeat clear hK K);repeat refine kq fun K hK=>?_)
   refine W2 ?_
   (refine VV ?_;(repeat clear hK K);repeat refine kq fun K hK=>?_)
   refine W6 [] Tryz.results18 ?_
   rw [G8 fun h=>by have:=h.2.1;omega]
  have b1:decide ((N.length:Int)<1)=false:=decide_eq_false (by omega)
  by_cases hl2:N.length > 4096
  ·have b2:decide ((N.length:Int) > 4096)=true:=gEg (by omega)
   (refine VW (an @Bool.not_true (an @Bz (an @Cw (an @b1 @b2)))) ?_;(repeat clear hK K);repeat refine kq fun K hK=>?_)
   refine W2 ?_
   (refine VV ?_;(repeat clear hK K);repeat refine kq fun K hK=>?_)
   refine W6 [] Tryz.results18 ?_
   rw [G8 fun h=>by have:=h.2.2.1;omega]
  have b2:decide ((N.length:Int) > 4096)=false:=decide_eq_false (by omega)
  (refine VW (an @Bool.not_true (an @Bz (an @Cw (an @b1 @b2)))) ?_;(repeat clear hK K);repeat refine kq fun K hK=>?_)
  refine W3 ?_
  (refine VW (an @Bz @Cw) ?_;(repeat clear hK K);repeat refine kq fun K hK=>?_)
  refine Ab (fun k:Nat=>{ tm:=[(0,.a (.c (.t 3 (tN N)))),(1,.i m),(5,.i (262144 - (Fe (N.take k):Int))),(21,.a (.c (.t 3 (tN N)))),(22,.i N.length),(23,.i k)],hp:=[],n:=51,pin:=0 }) (fun k=>k<=N.length/\Fe (N.take k)<=262144/\∀ x∈N.take k,LW N.length 0 x.1=true/\XT x m=true) (fun k=>N.length - k) 0 ?_ ?_ ?_
  ·exact ⟨by omega,by simp [Fe],by simp⟩
  ·have ht0:(262144:Int) - ((Fe (N.take 0):Nat):Int)=262144:=by simp [Fe]
   rw [ht0]
   exact W5
  rintro k ⟨hk,hto,hok⟩ K hK
  by_cases hlt:k<N.length
  rotate_left
  ·have d1:decide ((k:Int)<(N.length:Int))=false:=by simpa using hlt
   rw [gE7 (by omega)] at hok hto
   have hnu:=Sh N (by omega) fun x hx=>⟨(hN.2 x hx).1,fun a ha=>by have:=(KT (hok x hx).1).2 a ha;omega⟩
   (refine VW @d1 ?_;(repeat clear hK K);repeat refine kq fun K hK=>?_)
   refine W3 ?_
   (refine VZ ?_;repeat clear hK K)
   (refine VV ?_;(repeat clear hK K);repeat refine kq fun K hK=>?_)
   (refine W0 hnu ?_;intro K1 hK1)
   rintro _ _ ⟨rfl,rfl⟩
   (refine W1 ?_;clear hK1 K1)
   (refine VV ?_;(repeat clear hK K);repeat refine kq fun K hK=>?_)
   refine W6 [] Tryz.results18 ?_
   have hva:XU N m=XM 1 0 N:=by
    cases hq:XM 1 0 N with
    | true=>exact Hr.2 ⟨hm,by omega,by omega,hto,hok,hq⟩
    | false=>exact G8 fun h=>by have:=h.2.2.2.2.2;rw [hq] at this;cases this
   rw [hva]
  have d1:decide ((k:Int)<(N.length:Int))=true:=by simpa using hlt
  have hat:=LF hlt
  have hb:=hN.2 _ (gE6 hlt)
  have htn:=NR hlt
  have htl:=Sm N (k+1)
  have hmem:=gE6 hlt
  have hTk:N.take (k+1)=N.take k++[N[k]]:=gE8 hlt
  generalize N[k]=x at *
  obtain ⟨A,V,dv⟩:=x
  simp only [Xo] at hat hb htn
  have hso:=LJ A N.length (by omega)
  have hvs:=fun h=>Sk A V dv m (by omega) h (by omega) (fun s h=>by have:=hb.2.2 s h;omega)
  (refine VW @d1 ?_;(repeat clear hK K);repeat refine kq fun K hK=>?_)
  refine W2 ?_
  by_cases hle:Fe (N.take (k+1)) > 262144
  ·have b3:decide ((262144:Int) - (Fe (N.take k):Int) - (A.length:Int)<0)=true:=gEg (by omega)
   (refine Cu (an @hat (an @Bz (an @Cw (an @A3 (an @Aq @b3))))) ?_;(repeat clear hK K);repeat refine kq fun K hK=>?_)
   refine W2 ?_
   (refine VV ?_;(repeat clear hK K);repeat refine kq fun K hK=>?_)
   refine W6 [] Tryz.results18 ?_
   rw [G8 fun h=>by have:=h.2.2.2.1;omega]
  have b3:decide ((262144:Int) - (Fe (N.take k):Int) - (A.length:Int)<0)=false:=decide_eq_false (by omega)
  (refine Cu (an @hat (an @Bz (an @Cw (an @A3 (an @Aq @b3))))) ?_;(repeat clear hK K);repeat refine kq fun K hK=>?_)
  (refine AY rfl rfl (by simp only [go_sem] <;> rfl) ?_;intro K1 hK1;refine (Av (ids:=[]) (hso) rfl rfl (by simp only [go_sem]) (by kernel_rfl) (by (simp only [List.append_nil,go_sem]) <;> rfl) ?_).stp)
  rintro _ _ ⟨rfl,rfl⟩
  (refine W1 ?_;clear hK1 K1)
  cases hsr:LW N.length 0 A with
  | false=>
   (refine VW @Bool.not_false ?_;(repeat clear hK K);repeat refine kq fun K hK=>?_)
   refine W2 ?_
   (refine VV ?_;(repeat clear hK K);repeat refine kq fun K hK=>?_)
   refine W6 [] Tryz.results18 ?_
   rw [G8 fun h=>by have:=(h.2.2.2.2.1 _ hmem).1;rw [hsr] at this;cases this]
  | true=>
   (refine Cu @Bool.not_true ?_;(repeat clear hK K);repeat refine kq fun K hK=>?_)
   (refine AY rfl rfl (by simp only [go_sem] <;> rfl) ?_;intro K1 hK1;refine (Av (ids:=[]) (hvs (KT hsr).1) rfl rfl (by simp only [go_sem]) (by kernel_rfl) (by (simp only [List.append_nil,go_sem]) <;> rfl) ?_).stp)
   rintro _ _ ⟨rfl,rfl⟩
   (refine W1 ?_;clear hK1 K1)
   cases hvb:XT (A,V,dv) m with
   | false=>
    (refine VW @Bool.not_false ?_;(repeat clear hK K);repeat refine kq fun K hK=>?_)
    refine W2 ?_
    (refine VV ?_;(repeat clear hK K);repeat refine kq fun K hK=>?_)
    refine W6 [] Tryz.results18 ?_
    rw [G8 fun h=>by have:=(h.2.2.2.2.1 _ hmem).2;rw [hvb] at this;cases this]
   | true=>
    (refine VW @Bool.not_true ?_;(repeat clear hK K);repeat refine kq fun K hK=>?_)
    refine W3 ?_
    (refine VV ?_;(repeat clear hK K);repeat refine kq fun K hK=>?_)
    refine W4 ?_
    refine hK _ (k+1) ⟨by omega,by omega,fun x hx=>?_⟩ (by omega) ?_
    ·rw [hTk] at hx
     rcases List.mem_append.1 hx with q | q
     ·exact hok x q
     rw [List.mem_singleton.1 q];exact ⟨hsr,hvb⟩
    have hn5:(262144:Int) - ((Fe (N.take (k+1)):Nat):Int)=262144 - (Fe (N.take k):Int) - (A.length:Int):=by omega
    rw [hn5]
    refine Le.trans (A8 [] rfl rfl) ?_
    simp only [go_sem]
    exact W5
def XV (A:List Ar) (cl:List Int):List Int:=A.flatMap fun a=>[a.1,cl.getD a.2.toNat 0]
theorem Jv (A:List Ar) (cl:List Int):(XV A cl).length=2*A.length:=by
 induction A with
 | nil=>rfl
 | cons a A ih=>rw [show XV (a :: A) cl=[a.1,cl.getD a.2.toNat 0]++XV A cl from rfl,List.length_append,ih];simp;omega
theorem PJ {A:List Ar} {cl:List Int} {k:Nat} (h:k<A.length):XV (A.take (k+1)) cl=XV (A.take k) cl++[A[k].1,cl.getD A[k].2.toNat 0]:=by
 unfold XV
 rw [gE8 h,List.flatMap_append];simp
set_option maxHeartbeats 2000000 in
theorem So (c:Int) (A:List Ar) (cl:List Int) (hA:A.length<=1000000) (hcl:cl.length<=1000000) (hb:∀ a∈A,0<=a.2/\a.2<(cl.length:Int)):FC Tryz.prog 119 [.i c,.a (.c (.t 2 (Aw A))),.a (.c (.t 1 (Ac cl)))] [] (fun r o=>o=[]/\r=.a (.c (.v (Dg (c :: XV A cl))))):=by
 refine A7 Tryz.func119 rfl (by rw [Tryz.ntmps119];simp) ?_
 rw [Tryz.ntmps119]
 simp only [B4]
 (refine VW (an @A3 @Aq) ?_;(repeat clear hK K);repeat refine kq fun K hK=>?_)
 refine Ab (fun k:Nat=>{ tm:=[(2,.a (.c (.t 1 (Ac cl)))),(7,.a (.c (.s 0 (1+2*k)))),(12,.a (.c (.t 2 (Aw A)))),(13,.i A.length),(14,.i k)],hp:=[.r ⟨3,1,true,A9 (c :: XV (A.take k) cl)⟩],n:=31,pin:=0 }) (fun k=>k<=A.length) (fun k=>A.length - k) 0 ?_ ?_ ?_
 ·omega
 ·have hc0:A9 (c :: XV [] cl)=[.v (.int .i64 c)]:=rfl
  simp only [List.take_zero,hc0]
  exact W5
 rintro k hk K hK
 by_cases hlt:k<A.length
 rotate_left
 ·have d1:decide ((k:Int)<(A.length:Int))=false:=by simpa using hlt
  have hke:A.take k=A:=gE7 (by omega)
  have hkl:k=A.length:=by omega
  have hkk:=KI (c :: XV A cl) (by rw [List.length_cons,Jv];omega)
  have hln:(c :: XV A cl).length=1+2*k:=by rw [List.length_cons,Jv,hkl];omega
  rw [hke]
  obtain ⟨Q,hQ⟩:∃ Q,c :: XV A cl=Q:=⟨_,rfl⟩
  rw [hQ] at hkk hln ⊢
  have hfo:(Ac Q).take (1+2*k)=Ac Q:=gE7 (by rw [A2,hln];exact Nat.le_refl _)
  simp only [Ap] at hkk
  (refine VW @d1 ?_;(repeat clear hK K);repeat refine kq fun K hK=>?_)
  refine W3 ?_
  (refine VZ ?_;repeat clear hK K)
  (refine As (B6 (r:=⟨3,1,true,A9 Q⟩) 0 (Ac Q) rfl (ES _) (show 0<(1:Nat) by omega)) ?_;simp only [ST.frz,A0.frz,AV.frz,C.frz,Nat.le_refl,List.set_cons_zero,List.set_cons_succ,go_sem,A2,hln,hfo])
  (refine VV ?_;(repeat clear hK K);repeat refine kq fun K hK=>?_)
  (refine W0 hkk ?_;intro K1 hK1)
  rintro _ _ ⟨rfl,rfl⟩
  (refine W1 ?_;clear hK1 K1)
  (refine VV ?_;(repeat clear hK K);repeat refine kq fun K hK=>?_)
  refine W6 [] Tryz.results119 ?_
  rw [hQ]
 have d1:decide ((k:Int)<(A.length:Int))=true:=by simpa using hlt
 have hat:=AS hlt
 have hnx:=PJ (cl:=cl) hlt
 have hbt:=hb _ (gE6 hlt)
 have hel:(XV (A.take k) cl).length=2*k:=by rw [Jv,List.length_take];omega
 generalize XV (A.take k) cl=Q at *
 generalize A[k]=a at *
 obtain ⟨e,t⟩:=a
 simp only at hat hnx hbt
 obtain ⟨tn,rfl⟩:∃ n:Nat,t=(n:Int):=⟨t.toNat,by omega⟩
 have htl:tn<cl.length:=by omega
 have gc:=Al (gE1 htl)
 have hgd:cl.getD ((tn:Int)).toNat 0=cl[tn]:=by rw [Int.toNat_natCast,gE2,gE1 htl];rfl
 rw [hgd] at hnx
 generalize cl[tn]=z at *
 have hQl:(c :: Q).length=1+2*k:=by rw [List.length_cons,hel];omega
 have ca:(A9 (c :: Q)).take (1+2*k)++[C.v (.int .i64 e),C.v (.int .i64 z)]=A9 (c :: (Q++[e,z])):=by
  rw [gE7 (by rw [A4,hQl];exact Nat.le_refl _)];simp [A9]
 (refine VW @d1 ?_;(repeat clear hK K);repeat refine kq fun K hK=>?_)
 refine W2 ?_
 (refine Cu (an @hat (an @A3 @Aq)) ?_;(repeat clear hK K);repeat refine kq fun K hK=>?_)
 (refine AF [1] (.m 0 0 0 (.m 1 0 0 (.m 2 1 8 (.m 3 0 0 (.m 4 0 0 (.m 5 1 8 (.m 6 0 0 (.m 7 1 8 (.a 8 (.a 9 (.m 10 0 0 .e))))))))))) (by kernel_rfl) (by kernel_rfl) (by intro c st h;simp [Ad,Ay,Vl] at h) ?_)
 (refine VY (an @gc @A2) ?_;repeat clear hK K)
 (refine VL rfl rfl ?_;intro K1 hK1;refine Bl rfl ?_;simp only [go_sem];(first | refine hK1 _ ?_ | refine AE (hK1 _ ?_));clear hK1 K1)
 (refine E3 rfl rfl rfl ?_;intro K1 hK1;refine Cl rfl rfl rfl rfl (by first | rfl | simp only [Ct,List.getD_cons_zero,List.getD_cons_succ,hne,List.isEmpty_cons,Bool.not_false,Bool.true_and,Bool.and_true,Bool.and_self]) rfl ?_;simp only [go_sem,A4,hQl,ca];(first | refine hK1 _ ?_ | refine AE (hK1 _ ?_));clear hK1 K1)
 (refine VX ?_;repeat clear hK K)
 (refine VV ?_;(repeat clear hK K);repeat refine kq fun K hK=>?_)
 refine W4 ?_
 refine hK _ (k+1) (by omega) (by omega) ?_
 rw [hnx]
 have h12:1+2*(k+1)=1+2*k+2:=by omega
 rw [h12]
 refine Le.trans (A8 [3] rfl rfl) ?_
 simp only [go_sem,A5]
 exact W5
def XW (V:List (List Int)):List Int:=V.flatMap fun s=>(s.length:Int) :: s
def XX (x:Xh):List Int:=(if x.2.2 then 1 else 0) :: (x.2.1.length:Int) :: (XW x.2.1++XK x.1)
theorem PK {V:List (List Int)} {k:Nat} (h:k<V.length):XW (V.take (k+1))=XW (V.take k)++((V[k].length:Int) :: V[k]):=by
 unfold XW
 rw [gE8 h,List.flatMap_append];simp
theorem NS {V:List (List Int)} {n:Nat} (h:∀ s∈V,s.length<=n):(XW V).length<=V.length*(n+1):=by
 induction V with
 | nil=>simp [XW]
 | cons s V ih=>
  rw [show XW (s :: V)=((s.length:Int) :: s)++XW V from rfl,List.length_append,List.length_cons,List.length_cons,Nat.succ_mul]
  have h1:=ih fun t ht=>h t (gEf _ ht)
  have h2:=h s List.mem_cons_self
  omega
set_option maxHeartbeats 4000000 in
theorem NT (A:List Ar) (V:List (List Int)) (dv:Bool) (hA:A.length<=10000) (hVl:V.length<=2000) (hVs:∀ s∈V,s.length<=2000):FC Tryz.prog 117 [.a (.g [.t 2 (Aw A),.t 1 (Az V),.v (.bool dv)])] [] (fun r o=>o=[]/\r=.a (.c (.v (Dg (XX (A,V,dv)))))):=by
 refine A7 Tryz.func117 rfl (by rw [Tryz.ntmps117];simp) ?_
 rw [Tryz.ntmps117]
 simp only [B4]
 have hev:=Qr A (by omega)
 have hfl:=NS hVs
 have hfl2:V.length*2001<=2000*2001:=Nat.mul_le_mul hVl (Nat.le_refl _)
 have hkk:=KI (XX (A,V,dv)) (by
  simp only [XX,List.length_cons,List.length_append,BS];omega)
 obtain ⟨d,hd⟩:∃ d:Int,(if dv=true then (1:Int) else 0)=d:=⟨_,rfl⟩
 have hfx:XX (A,V,dv)=d :: (V.length:Int) :: (XW V++XK A):=by unfold XX;rw [<- hd]
 rw [hfx] at hkk ⊢
 obtain ⟨W,hW⟩:∃ W:Nat->List Int,W=fun k=>d :: (V.length:Int) :: XW (V.take k):=⟨_,rfl⟩
 have hW0:W 0=[d,(V.length:Int)]:=by rw [hW];simp [XW]
 have hWs:∀ k (h:k<V.length),W (k+1)=W k++((V[k].length:Int) :: V[k]):=fun k h=>by rw [hW];simp only [PK h,List.cons_append]
 have hWn:∀ k,V.length<=k->W k++XK A=d :: (V.length:Int) :: (XW V++XK A):=fun k h=>by rw [hW];simp only [gE7 h,List.cons_append]
 have hWl:∀ k,(W k).length<=5000000:=fun k=>by
  rw [hW]
  have h1:=NS (V:=V.take k) (n:=2000) fun s hs=>hVs s (List.mem_of_mem_take hs)
  have h2:(V.take k).length*2001<=2000*2001:=Nat.mul_le_mul (by rw [List.length_take];omega) (Nat.le_refl _)
  simp only [List.length_cons];omega
 clear hW
 obtain ⟨bv,hbv⟩:∃ b:Bool,b=dv:=⟨_,rfl⟩
 obtain ⟨dd,hdd⟩:∃ e:Int,e=d:=⟨_,rfl⟩
 cases dv
 all_goals
  simp only [Bool.false_eq_true,if_false,if_true] at hd
  subst hd
  simp only [Ap] at hkk hev
  (refine VW @Ae ?_;(repeat clear hK K);repeat refine kq fun K hK=>?_)
  (refine Ah ?_;intro X Y hX hY;simp only [go_sem])
  first | (refine hX ?_;clear hX hY X Y) | (refine hY ?_;clear hX hY X Y)
  (refine Cu (an @Int.toNat_zero @Ae) ?_;(repeat clear hK K);repeat refine kq fun K hK=>?_)
  refine Ab (fun k:Nat=>{ tm:=[(1,.a (.c (.p 0 0))),(3,.a (.c (.s 1 (W k).length))),(15,.a (.c (.t 1 (Az V)))),(16,.i V.length),(17,.i k)],hp:=[.r ⟨35,3,false,[.t 2 (Aw A),.t 1 (Az V),.v (.bool bv)]⟩,.r ⟨3,1,true,A9 (W k)⟩],n:=35,pin:=0 }) (fun k=>k<=V.length) (fun k=>V.length - k) 0 ?_ ?_ ?_
  ·omega
  ·have hc0:A9 (W 0)=[.v (.int .i64 dd),.v (.int .i64 (V.length:Nat))]:=by rw [hW0,hdd];rfl
   have hl0:(W 0).length=2:=by rw [hW0];rfl
   rw [hl0,hc0,hbv,hdd]
   exact W5
  ·rintro k hk K hK
   have hwl:=hWl k
   have hcw:(A9 (W k)).length=(W k).length:=A4 _
   have htw:(A9 (W k)).take (W k).length=A9 (W k):=gE7 (by rw [hcw];exact Nat.le_refl _)
   by_cases hlt:k<V.length
   ·have d1:decide ((k:Int)<(V.length:Int))=true:=by simpa using hlt
    have gV:=AR (gE1 hlt)
    have hnx:=hWs k hlt
    have hsl:=hVs _ (gE6 hlt)
    have hwl2:=hWl (k+1)
    generalize V[k]=s at *
    have ca1:A9 (W k)++[C.v (.int .i64 (s.length:Nat))]=A9 (W k++[(s.length:Int)]):=by simp [A9]
    have cl1:(A9 (W k++[(s.length:Int)])).length=(W k).length+1:=by rw [A4];simp
    have ct1:(A9 (W k++[(s.length:Int)])).take ((W k).length+1)=A9 (W k++[(s.length:Int)]):=gE7 (by rw [cl1];exact Nat.le_refl _)
    have ca2:A9 (W k++[(s.length:Int)])++(Ac s).map C.ofTr=A9 (W (k+1)):=by rw [hnx];simp [A9,Ac,C.ofTr,Function.comp_def]
    have hl2:(W (k+1)).length=(W k).length+1+s.length:=by rw [hnx];simp;omega
    (refine VW @d1 ?_;(repeat clear hK K);repeat refine kq fun K hK=>?_)
    refine W2 ?_
    (refine VW (an @gV @Ae) ?_;(repeat clear hK K);repeat refine kq fun K hK=>?_)
    (refine VW (an @A2 (an @hcw (an @htw (an @ca1 (an @cl1 (an @ct1 @ca2)))))) ?_;(repeat clear hK K);repeat refine kq fun K hK=>?_)
    refine W4 ?_
    refine hK _ (k+1) (by omega) (by omega) ?_
    rw [hl2]
    refine Le.trans (A8 [0,4] rfl rfl) ?_
    simp only [go_sem,A5]
    exact W5
   ·have d1:decide ((k:Int)<(V.length:Int))=false:=by simpa using hlt
    have hwn:=hWn k (by omega)
    have hEl:(XK A).length<=10000:=by rw [BS];exact hA
    have hfn:(W k++XK A).length=(W k).length+(XK A).length:=List.length_append
    have ca2:A9 (W k)++(Ac (XK A)).map C.ofTr=A9 (W k++XK A):=by simp [A9,Ac,C.ofTr,Function.comp_def]
    obtain ⟨E,hE⟩:∃ E,XK A=E:=⟨_,rfl⟩
    rw [<- hwn] at hkk
    rw [<- hwn]
    rw [hE] at hkk hev hEl hfn ca2 ⊢
    obtain ⟨Z,hZ⟩:∃ Z,W k++E=Z:=⟨_,rfl⟩
    rw [hZ] at hkk ca2 hfn ⊢
    have hfo:(Ac Z).take ((W k).length+E.length)=Ac Z:=gE7 (by rw [A2,hfn];exact Nat.le_refl _)
    (refine VW @d1 ?_;(repeat clear hK K);repeat refine kq fun K hK=>?_)
    refine W3 ?_
    (refine VZ ?_;repeat clear hK K)
    (refine VV ?_;(repeat clear hK K);repeat refine kq fun K hK=>?_)
    (refine W0 hev ?_;intro K1 hK1)
    rintro _ _ ⟨rfl,rfl⟩
    (refine W1 ?_;clear hK1 K1)
    (refine VW (an @A2 (an @hcw (an @htw @ca2))) ?_;(repeat clear hK K);repeat refine kq fun K hK=>?_)
    (refine Bw (B6 (r:=⟨3,1,true,A9 Z⟩) 2 (Ac Z) rfl (ES _) (show 0<(1:Nat) by omega)) ?_;simp only [ST.frz,A0.frz,AV.frz,C.frz,Nat.le_refl,List.set_cons_zero,List.set_cons_succ,go_sem,A2,hfn,hfo])
    (refine VV ?_;(repeat clear hK K);repeat refine kq fun K hK=>?_)
    (refine W0 hkk ?_;intro K1 hK1)
    rintro _ _ ⟨rfl,rfl⟩
    (refine W1 ?_;clear hK1 K1)
    (refine VV ?_;(repeat clear hK K);repeat refine kq fun K hK=>?_)
    refine W6 [] Tryz.results117 ?_
    rw [<- hwn,hE,hZ]
end Go.Proofs.YtbnabodoabimnaaGreat
