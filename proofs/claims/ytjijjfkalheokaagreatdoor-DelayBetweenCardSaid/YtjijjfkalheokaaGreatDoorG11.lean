/- Lemmas. -/
import Derived.Test.YtjijjfkalheokaaGreatDoorZk
import Derived.Test.YtjijjfkalheokaaGreatDoorMF
import Derived.Test.YtjijjfkalheokaaGreatDoorMfl
import Derived.Test.YtjijjfkalheokaaGreatDoorShlf
namespace Go.Proofs.YtjijjfkalheokaaGreatDoor
set_option linter.unusedVariables false
set_option linter.unusedSimpArgs false
open Go.RowKit
set_option maxRecDepth 100000

theorem K4 (a b:Ar):FC Tryz.prog 51 [.a (.g [.v (.int .i64 a.1),.v (.int .i64 a.2)]),.a (.g [.v (.int .i64 b.1),.v (.int .i64 b.2)])] [] (fun r o=>o=[]/\r=.b (WK a b)):=by
 refine A6 Tryz.func51 rfl (by rw [Tryz.ntmps51];simp) ?_
 rw [Tryz.ntmps51]
 simp only [Bf]
 by_cases h1:a.1<b.1
 ·have e1:decide (a.1<b.1)=true:=by simpa using h1
  (refine Wu @e1 ?_;(repeat clear hK K);repeat refine kq fun K hK=>?_)
  ((try refine Av ?_);(try simp only [Ae,AF]);refine B6 (A9 [] rfl rfl) ?_;(try simp only [List.set_nil,List.take_nil,List.take_zero,List.map_append,go_sem]);((try refine Av ?_);(try refine Aa ?_);(try simp only [Ae,AF]);refine Bj (by first | exact .inl rfl | exact .inr rfl) rfl ?_;simp only [VU,Dy,Du,DL,Tryz.results51,go_sem,true_and,and_true,WK,e1,Bool.true_or]))
 have e1:decide (a.1<b.1)=false:=by simpa using h1
 by_cases h2:a.1=b.1
 ·have e2:(a.1 == b.1)=true:=by simpa using h2
  (refine Wu (an @e1 @e2) ?_;(repeat clear hK K);repeat refine kq fun K hK=>?_)
  ((try refine Av ?_);(try simp only [Ae,AF]);refine B6 (A9 [] rfl rfl) ?_;(try simp only [List.set_nil,List.take_nil,List.take_zero,List.map_append,go_sem]);((try refine Av ?_);(try refine Aa ?_);(try simp only [Ae,AF]);refine Bj (by first | exact .inl rfl | exact .inr rfl) rfl ?_;simp only [VU,Dy,Du,DL,Tryz.results51,go_sem,true_and,and_true,WK,e1,e2,Bool.false_or,Bool.true_and]))
 have e2:(a.1 == b.1)=false:=by simpa using h2
 (refine Wu (an @e1 @e2) ?_;(repeat clear hK K);repeat refine kq fun K hK=>?_)
 ((try refine Av ?_);(try simp only [Ae,AF]);refine B6 (A9 [] rfl rfl) ?_;(try simp only [List.set_nil,List.take_nil,List.take_zero,List.map_append,go_sem]);((try refine Av ?_);(try refine Aa ?_);(try simp only [Ae,AF]);refine Bj (by first | exact .inl rfl | exact .inr rfl) rfl ?_;simp only [VU,Dy,Du,DL,Tryz.results51,go_sem,true_and,and_true,WK,e1,e2,Bool.false_or,Bool.false_and]))

theorem TW:UM Tryz.prog 46 2:=TS Tryz.underlying46 (by kernel_rfl) (by kernel_rfl) (by decide) (by decide) rfl rfl (by kernel_rfl) (by kernel_rfl)
theorem RK (x y:Operand) (a b c d:Int):FR Tryz.prog .eql 46 x y [.int .i64 a,.int .i64 b] [.int .i64 c,.int .i64 d] (a == c && b == d)=True:=by
 refine eq_true ?_
 have:=(TW x y [.v (.int .i64 a),.v (.int .i64 b)] [.v (.int .i64 c),.v (.int .i64 d)] _ _ rfl rfl rfl rfl).1
 simpa [VD] using this
theorem Dm {a b:Ar}:(a.1 == b.1 && a.2 == b.2)=decide (a=b):=by
 obtain ⟨a1,a2⟩:=a
 obtain ⟨b1,b2⟩:=b
 simp [Prod.ext_iff,Bool.beq_eq_decide_eq]
theorem MJ (x y:Operand) (a b:Ar):FR Tryz.prog .eql 46 x y [.int .i64 a.1,.int .i64 a.2] [.int .i64 b.1,.int .i64 b.2] (decide (a=b))=True:=by
 rw [<- Dm];exact RK x y _ _ _ _
theorem Ak (n:Nat):n*2 / 2=n:=by omega
theorem EX (xs:List Ar) (x:Ar) (hn:xs.length<=100000000):FC Tryz.prog 26 [BK xs,.a (.g [.v (.int .i64 x.1),.v (.int .i64 x.2)])] [] (fun r o=>o=[]/\r=BK (D1 x xs)):=by
 refine A6 Tryz.func26 rfl (by rw [Tryz.ntmps26];simp) ?_
 rw [Tryz.ntmps26]
 simp only [Bf,BK]
 (refine Wt ?_;(repeat clear hK K);repeat refine kq fun K hK=>?_)
 refine A8 (fun k:Nat=>{ tm:=[(0,.a (.c (.t 2 (Ao xs)))),(3,.a (.c (.p 0 0))),(5,.i k)],hp:=[.r ⟨46,2,false,[.v (.int .i64 x.1),.v (.int .i64 x.2)]⟩],n:=48,pin:=0 }) (fun k=>k<=xs.length/\∀ i y,i<k->xs[i]?=some y->WK y x=true) (fun k=>xs.length - k) 0 ?_ ?_ ?_
 ·exact ⟨by omega,by intro i y hi;omega⟩
 ·exact WE
 rintro k ⟨hk,he⟩ K hK
 have fin:(∀ z,xs[k]?=some z->WK z x=false/\z ≠ x)->D1 x xs=xs.take k++[x]++xs.drop k:=by
  intro h1
  rw [MI hk he h1];simp
 have hlen:(xs.take k++[x]++xs.drop k).length=k+1+(xs.length - k):=by simp;omega
 have hlen2:(xs.take k).length=k:=by simp;omega
 have hlen3:(xs.take k++[x]).length=k+1:=by simp;omega
 by_cases hlt:k<xs.length
 rotate_left
 ·have hl1:decide ((k:Int)<(xs.length:Int))=false:=by simpa using hlt
  (refine Wt ?_;(repeat clear hK K);repeat refine kq fun K hK=>?_)
  (refine Ac 10 [(0,0),(1,0),(2,0),(3,0),(4,0),(5,0),(6,0),(7,0),(8,1),(9,1),(10,2),(11,0)] (by kernel_rfl) (by kernel_rfl) (by intro c st h;simp [Ae,AF,VT] at h) ?_)
  (refine Wo (an @hl1 (an @A2 @Ak)) ?_;repeat clear hK K)
  (refine Wt ?_;(repeat clear hK K);repeat refine kq fun K hK=>?_)
  refine WC ?_
  (refine Wx ?_;repeat clear hK K)
  (refine Wt ?_;(repeat clear hK K);repeat refine kq fun K hK=>?_)
  (refine Ac 11 [(0,0),(1,0),(2,0),(3,0),(4,0),(5,0),(6,0),(7,0),(8,1),(9,1),(10,0),(11,2)] (by kernel_rfl) (by kernel_rfl) (by intro c st h;simp [Ae,AF,VT] at h) ?_)
  (refine Wo (an @hl1 (an @A2 @Ak)) ?_;repeat clear hK K)
  (refine Wt ?_;(repeat clear hK K);repeat refine kq fun K hK=>?_)
  refine WC ?_
  (refine Wu (an @List.set_cons_zero.{0} (an @List.set_cons_succ.{0} (an @List.take_succ_cons.{0} (an @List.take_zero.{0} (an @List.drop_zero.{0} (an @List.length_take.{0} (an @List.length_drop.{0} (an @List.length_append.{0} (an @A2 (an @Ak (an @BA (an @DP (an @Cp (an @Ap (an @Ez (an @BF (an @D8 (an @DQ (an (Nat.min_eq_left hk) (an (gE7 (Nat.le_of_eq hlen2)) (gE7 (Nat.le_of_eq hlen3)))))))))))))))))))))) ?_;(repeat clear hK K);repeat refine kq fun K hK=>?_)
  ((try refine Av ?_);(try simp only [Ae,AF]);refine B6 (Bg (r:=⟨46,2,true,Ax (xs.take k++[x]++xs.drop k)⟩) 5 (Ao (xs.take k++[x]++xs.drop k)) rfl (Dl _) (show 0<(2:Nat) by omega)) ?_;refine B6 (A9 [] rfl rfl) ?_;simp only [ST.frz,A0.frz,AV.frz,C.frz,Nat.le_refl,List.set_cons_zero,List.set_cons_succ,go_sem,A2,Ak,hlen,Nat.le_refl,BA,gE7 (Nat.le_of_eq hlen)];(try simp only [List.set_nil,List.take_nil,List.take_zero,List.map_append,go_sem]);((try refine Av ?_);(try refine Aa ?_);(try simp only [Ae,AF]);refine Bj (by first | exact .inl rfl | exact .inr rfl) rfl ?_;simp only [VU,Dy,Du,DL,Tryz.results26,go_sem,true_and,and_true,A2,Ak,hlen,Nat.le_refl,BA,gE7 (Nat.le_of_eq hlen)]))
  rw [fin (fun z hz=>by rw [List.getElem?_eq_none (by omega)] at hz;cases hz)]
 have hl1:decide ((k:Int)<(xs.length:Int))=true:=by simpa using hlt
 have hk2:=AL hlt
 (refine Wt ?_;(repeat clear hK K);repeat refine kq fun K hK=>?_)
 (refine Ac 10 [(0,0),(1,0),(2,0),(3,0),(4,0),(5,0),(6,0),(7,0),(8,1),(9,1),(10,2),(11,0)] (by kernel_rfl) (by kernel_rfl) (by intro c st h;simp [Ae,AF,VT] at h) ?_)
 (refine Wo (an @hl1 (an @hk2 (an @A2 (an @Ak (an @List.map_cons.{0,0} (an @List.map_nil.{0,0} (an @List.take_succ_cons.{0} (an @List.take_zero.{0} @List.drop_zero.{0})))))))) ?_;repeat clear hK K)
 (refine Va rfl rfl rfl (by simp only [go_sem] <;> rfl) rfl ?_;intro K1 hK1;refine (Bb (ids:=[]) (K4 xs[k] x) rfl rfl (by simp only [go_sem]) (by kernel_rfl) (by (simp only [List.append_nil,go_sem]) <;> rfl) ?_).stp)
 rintro _ _ ⟨rfl,rfl⟩
 (refine Wz ?_;clear hK1 K1)
 (refine Wn ?_;repeat clear hK K)
 (refine Wt ?_;(repeat clear hK K);repeat refine kq fun K hK=>?_)
 (refine At ?_;intro X Y hX hY;simp only [go_sem])
 refine ⟨fun h=>hX ?_,fun h=>hY ?_⟩
 ·clear hX hY X Y
  (refine Wt ?_;(repeat clear hK K);repeat refine kq fun K hK=>?_)
  refine WD ?_
  refine hK _ (k+1) ⟨by omega,fun i y hi hy=>?_⟩ (by omega) ?_
  rotate_left
  ·exact WE
  by_cases e:i=k
  ·subst e;rw [gE1 hlt] at hy;cases hy;exact h
  exact he i y (by omega) hy
 have hle:WK xs[k] x=false:=h
 clear hX hY X Y
 (refine Wx ?_;repeat clear hK K)
 (refine Wt ?_;(repeat clear hK K);repeat refine kq fun K hK=>?_)
 (refine Ac 11 [(0,0),(1,0),(2,0),(3,0),(4,0),(5,0),(6,0),(7,0),(8,1),(9,1),(10,0),(11,2)] (by kernel_rfl) (by kernel_rfl) (by intro c st h;simp [Ae,AF,VT] at h) ?_)
 (refine Wo (an @hl1 (an @hk2 (an @MJ (an @Dm (an @true_and (an @A2 (an @Ak (an @List.map_cons.{0,0} (an @List.map_nil.{0,0} (an @List.take_succ_cons.{0} (an @List.take_zero.{0} @List.drop_zero.{0}))))))))))) ?_;repeat clear hK K)
 (refine Wt ?_;(repeat clear hK K);repeat refine kq fun K hK=>?_)
 (refine At ?_;intro X Y hX hY;simp only [go_sem])
 refine ⟨fun h=>hX ?_,fun h=>hY ?_⟩
 ·clear hX hY X Y
  (refine Wt ?_;(repeat clear hK K);repeat refine kq fun K hK=>?_)
  refine Av ?_
  simp only [Ae,AF]
  refine WF [] Tryz.results26 ?_
  rw [K3 he (by rw [gE1 hlt];simpa using h)]
 have hne:xs[k] ≠ x:=by simpa using h
 clear hX hY X Y
 (refine Wu (an @List.set_cons_zero.{0} (an @List.set_cons_succ.{0} (an @List.take_succ_cons.{0} (an @List.take_zero.{0} (an @List.drop_zero.{0} (an @List.length_take.{0} (an @List.length_drop.{0} (an @List.length_append.{0} (an @A2 (an @Ak (an @BA (an @DP (an @Cp (an @Ap (an @Ez (an @BF (an @D8 (an @DQ (an (Nat.min_eq_left hk) (an (gE7 (Nat.le_of_eq hlen2)) (gE7 (Nat.le_of_eq hlen3)))))))))))))))))))))) ?_;(repeat clear hK K);repeat refine kq fun K hK=>?_)
 ((try refine Av ?_);(try simp only [Ae,AF]);refine B6 (Bg (r:=⟨46,2,true,Ax (xs.take k++[x]++xs.drop k)⟩) 5 (Ao (xs.take k++[x]++xs.drop k)) rfl (Dl _) (show 0<(2:Nat) by omega)) ?_;refine B6 (A9 [] rfl rfl) ?_;simp only [ST.frz,A0.frz,AV.frz,C.frz,Nat.le_refl,List.set_cons_zero,List.set_cons_succ,go_sem,A2,Ak,hlen,Nat.le_refl,BA,gE7 (Nat.le_of_eq hlen)];(try simp only [List.set_nil,List.take_nil,List.take_zero,List.map_append,go_sem]);((try refine Av ?_);(try refine Aa ?_);(try simp only [Ae,AF]);refine Bj (by first | exact .inl rfl | exact .inr rfl) rfl ?_;simp only [VU,Dy,Du,DL,Tryz.results26,go_sem,true_and,and_true,A2,Ak,hlen,Nat.le_refl,BA,gE7 (Nat.le_of_eq hlen)]))
 rw [fin (fun z hz=>by rw [gE1 hlt] at hz;cases hz;exact ⟨hle,hne⟩)]
theorem K5 (x:Int):FC Tryz.prog 121 [.i x] [] (fun r o=>o=[]/\r=.b false):=by
 refine A6 Tryz.func121 rfl (by rw [Tryz.ntmps121];simp) ?_
 rw [Tryz.ntmps121]
 simp only [Bf]
 (repeat (first | (refine AC ?_;intro K hK) | refine Aj ?_ | refine Ad ?_ | (refine B5 rfl rfl ?_;intro K1 hK1;simp only [go_sem,bne_self_eq_false];(first | refine hK1 _ ?_ | refine AD (hK1 _ ?_));clear hK1 K1) | ((first | refine Aa ?_ | refine Al ?_);refine hK _ ?_;clear hK K)))
 exact M6 Tryz.results121
def Fv (a b:Int):Int:=if a<b then -1 else if a > b then 1 else 0
theorem K6 (x y:Int):FC Tryz.prog 98 [.i x,.i y] [] (fun r o=>o=[]/\r=.i (Fv x y)):=by
 refine A6 Tryz.func98 rfl (by rw [Tryz.ntmps98];simp) ?_
 rw [Tryz.ntmps98]
 simp only [Bf]
 (refine Wt ?_;(repeat clear hK K);repeat refine kq fun K hK=>?_)
 (refine Wy (K5 x) ?_;intro K1 hK1)
 rintro _ _ ⟨rfl,rfl⟩
 (refine Wz ?_;clear hK1 K1)
 (refine Wt ?_;(repeat clear hK K);repeat refine kq fun K hK=>?_)
 (refine Wy (K5 y) ?_;intro K1 hK1)
 rintro _ _ ⟨rfl,rfl⟩
 (refine Wz ?_;clear hK1 K1)
 (refine Wt ?_;(repeat clear hK K);repeat refine kq fun K hK=>?_)
 (refine At ?_;intro X Y hX hY;simp only [go_sem])
 refine hY ?_;clear hX hY X Y
 (refine Wt ?_;(repeat clear hK K);repeat refine kq fun K hK=>?_)
 (refine At ?_;intro X Y hX hY;simp only [go_sem])
 refine hY ?_;clear hX hY X Y
 (refine Wt ?_;(repeat clear hK K);repeat refine kq fun K hK=>?_)
 (refine At ?_;intro X Y hX hY;simp only [go_sem])
 refine ⟨fun h=>hX ?_,fun h=>hY ?_⟩
 ·clear hX hY X Y
  (refine Wt ?_;(repeat clear hK K);repeat refine kq fun K hK=>?_)
  refine WH Tryz.results98 ?_
  have:x<y:=by simpa using h
  simp [Fv,this]
 clear hX hY X Y
 have h1:¬ x<y:=by simpa using h
 clear h
 (refine Wt ?_;(repeat clear hK K);repeat refine kq fun K hK=>?_)
 (refine At ?_;intro X Y hX hY;simp only [go_sem])
 refine ⟨fun h=>hX ?_,fun h=>hY ?_⟩
 ·clear hX hY X Y
  (refine Wt ?_;(repeat clear hK K);repeat refine kq fun K hK=>?_)
  refine WH Tryz.results98 ?_
  have:y<x:=by simpa using h
  simp [Fv,this,h1]
 clear hX hY X Y
 (refine Wt ?_;(repeat clear hK K);repeat refine kq fun K hK=>?_)
 refine WH Tryz.results98 ?_
 have:¬ y<x:=by simpa using h
 simp [Fv,this,h1]
theorem Pt {α:Type} {xs:List α} {k:Nat} (h:k<xs.length):xs.drop k=xs[k] :: xs.drop (k+1):=List.drop_eq_getElem_cons h
theorem BS {P:Program} {ops:Array Oper} {l:List Oper} {st t:ST} {K:ST->Prop} (h:Le st t) (k:VQ P ops l t K):VQ P ops l st K:=fun M0 w0 a w Q hR hN=>k M0 w0 a w Q (h M0 w0 a w hR) hN
def Gc (a b:Ar):Int:=if Fv a.1 b.1 ≠ 0 then Fv a.1 b.1 else Fv a.2 b.2
theorem MK (a b:Int):(a<b/\Fv a b = -1)\/(a=b/\Fv a b=0)\/(b<a/\Fv a b=1):=by
 unfold Fv
 rcases Int.lt_trichotomy a b with h | h | h
 ·exact .inl ⟨h,by simp [h]⟩
 ·exact .inr (.inl ⟨h,by simp [h]⟩)
 exact .inr (.inr ⟨h,by rw [if_neg (by omega),if_pos h]⟩)
theorem Ce (a b:Ar):decide (Gc a b<0)=WK a b:=by
 rw [Bool.eq_iff_iff,decide_eq_true_iff,C0]
 unfold Gc
 rcases MK a.1 b.1 with ⟨h,e⟩ | ⟨h,e⟩ | ⟨h,e⟩ <;> rw [e]
 ·simp;omega
 ·rcases MK a.2 b.2 with ⟨h2,e2⟩ | ⟨h2,e2⟩ | ⟨h2,e2⟩ <;> rw [e2] <;> simp <;> omega
 simp;omega
theorem EY (a b:Ar):decide (Gc a b>=0)=!WK a b:=by
 rw [<- Ce,Bool.eq_iff_iff,decide_eq_true_iff,Bool.not_eq_true',decide_eq_false_iff_not]
 omega
instance decSortA (l:List Ar):Decidable (SortA l):=inferInstanceAs (Decidable (List.Pairwise (fun a b=>WK a b=true) l))
theorem Gd {xs:List Ar} (h:∀ i a b,xs[i]?=some a->xs[i+1]?=some b->WK a b=true):SortA xs:=by
 unfold SortA
 induction xs with
 | nil=>exact .nil
 | cons a r ih=>
  have h2:=ih fun i x y hx hy=>h (i+1) x y (by simpa using hx) (by simpa using hy)
  rw [List.pairwise_cons]
  refine ⟨fun b hb=>?_,h2⟩
  cases r with
  | nil=>simp at hb
  | cons c q=>
   have h1:=h 0 a c rfl rfl
   rcases List.mem_cons.1 hb with rfl | hb
   ·exact h1
   exact D7 h1 ((List.pairwise_cons.1 h2).1 b hb)
theorem SortA.at {xs:List Ar} (h:SortA xs) {i j:Nat} {a b:Ar} (hij:i<j) (ha:xs[i]?=some a) (hb:xs[j]?=some b):WK a b=true:=by
 have h1:=List.getElem?_eq_some_iff.1 ha
 have h2:=List.getElem?_eq_some_iff.1 hb
 have:=List.pairwise_iff_getElem.1 h i j h1.1 h2.1 hij
 rwa [h1.2,h2.2] at this
theorem Ij {xs:List Ar} {i:Nat} {a b:Ar} (ha:xs[i]?=some a) (hb:xs[i+1]?=some b) (h:WK a b=false):¬ SortA xs:=fun hs=>by
 have:=hs.at (by omega) ha hb
 rw [h] at this;cases this
def DY (x:Int):Prop:=2<=x/\x<=1025
instance decChanP (x:Int):Decidable (DY x):=inferInstanceAs (Decidable (_/\_))
theorem CC {xs:List Ar} {i:Nat} (h:i<xs.length):(Ao xs)[i*2]?=some (.v (.int .i64 xs[i].1)):=by
 have:=AL h
 have e:((Ao xs).drop (i*2))[0]?=some (.v (.int .i64 xs[i].1)):=by
  rw [<- List.getElem?_take_of_lt (show 0<2 by omega),this];rfl
 simpa using e
theorem Dn {xs:List Ar} {i:Nat} (h:i<xs.length):(Ao xs)[i*2+1]?=some (.v (.int .i64 xs[i].2)):=by
 have:=AL h
 have e:((Ao xs).drop (i*2))[1]?=some (.v (.int .i64 xs[i].2)):=by
  rw [<- List.getElem?_take_of_lt (show 1<2 by omega),this];rfl
 simpa using e
def Vi (o:List Ar):Prop:=SortA o/\(∀ a∈o,DY a.1/\DY a.2/\a.1 ≠ a.2)/\∀ x∈o,∀ y∈o,y.1=x.2->(x.1,y.2)∈o
instance decOrdP (o:List Ar):Decidable (Vi o):=inferInstanceAs (Decidable (_/\_/\_))
def Bw (R:List (List Ar)):Nat:=(R.map List.length).sum
theorem MM (R:List (List Ar)) (r:List Ar):Bw (R++[r])=Bw R+r.length:=by simp [Bw]
theorem Cj {R:List (List Ar)} {k:Nat} (h:k<R.length):Bw (R.take (k+1))=Bw (R.take k)+R[k].length:=by
 rw [gE8 h,MM]
theorem Hi (R:List (List Ar)) (k:Nat):Bw (R.take k)<=Bw R:=by
 have:Bw R=Bw (R.take k)+Bw (R.drop k):=by
  unfold Bw
  rw [<- List.sum_append,<- List.map_append,List.take_append_drop]
 omega
def Tq:Nat:=16384
def Ts:Nat:=262144
def UR (R:List (List Ar)):Prop:=1<=R.length/\R.length<=Tq/\Bw R<=Ts/\∀ r∈R,∀ a∈r,0<=a.1/\a.1<=1025/\0<=a.2/\a.2<(R.length:Int)
instance decLooP (R:List (List Ar)):Decidable (UR R):=inferInstanceAs (Decidable (_/\_/\_/\_))
def BE (R:List (List Ar)):Bool:=decide (UR R)
def Bv (R:List (List Ar)):Bool:=decide (UR R/\∀ r∈R,SortA r)
theorem MN {R:List (List Ar)} (h:BE R=false):Bv R=false:=by
 rw [BE,decide_eq_false_iff_not] at h
 rw [Bv,decide_eq_false_iff_not]
 exact fun h2=>h h2.1
attribute [local go_sem] lga C.pl C.one
def Gy (x:Int) (l:List Int):Int:=l.foldl (fun a b=>if b<a then b else a) x
theorem RM (l:List Int):∀ x:Int,Gy x l<=x/\∀ y∈l,Gy x l<=y:=by
 induction l with
 | nil=>intro x;exact ⟨Int.le_refl _,by simp⟩
 | cons a r ih=>
  intro x
  have e:Gy x (a :: r)=Gy (if a<x then a else x) r:=rfl
  obtain ⟨h1,h2⟩:=ih (if a<x then a else x)
  rw [e]
  have h3:(if a<x then a else x)<=x/\(if a<x then a else x)<=a:=by split <;> omega
  refine ⟨Int.le_trans h1 h3.1,fun y hy=>?_⟩
  rcases List.mem_cons.1 hy with rfl | h
  ·exact Int.le_trans h1 h3.2
  exact h2 y h
theorem Pw (l:List Int):∀ x:Int,Gy x l=x\/Gy x l∈l:=by
 induction l with
 | nil=>intro x;exact .inl rfl
 | cons a r ih=>
  intro x
  have e:Gy x (a :: r)=Gy (if a<x then a else x) r:=rfl
  rw [e]
  rcases ih (if a<x then a else x) with h | h
  rotate_left
  ·exact .inr (gEf _ h)
  rw [h];split
  ·exact .inr (List.mem_cons_self)
  exact .inl rfl
theorem Hj {O:List Int} {off k:Nat} (h:off+k<O.length):(O.drop off).take (k+1)=(O.drop off).take k++[O[off+k]]:=by
 have h1:k<(O.drop off).length:=by simp;omega
 rw [gE8 h1,List.getElem_drop]
theorem MO (x:Int) (l:List Int) (y:Int):Gy x (l++[y])=if y<Gy x l then y else Gy x l:=by unfold Gy;rw [List.foldl_append];rfl

theorem RN (O:List Int) (off n:Nat) (hn:0<n) (hO:off+n<=O.length) (hb:off+n<=140737488355328):FC Tryz.prog 134 [.a (.c (.w 0 off n 1))] [AA O] (fun r o=>o=[AA O]/\r=.i (Gy O[off] ((O.drop off).take n))):=by
 refine A6 Tryz.func134 rfl (by rw [Tryz.ntmps134];simp) ?_
 rw [Tryz.ntmps134]
 simp only [Bf,AA]
 have d0:decide ((n:Int)<1)=false:=by simp;omega
 have h0:off<O.length:=by omega
 have g0:(A7 O)[off]?=some (.v (.int .i64 O[off])):=Aq (gE1 h0)
 (refine Wu @d0 ?_;(repeat clear hK K);repeat refine kq fun K hK=>?_)
 refine WC ?_
 (refine Wu (an @g0 (an @Int.toNat_zero @Nat.add_zero)) ?_;(repeat clear hK K);repeat refine kq fun K hK=>?_)
 refine A8 (fun k:Nat=>{ tm:=[(0,.a (.c (.w 0 off n 1))),(3,.i (Gy O[off] ((O.drop off).take k))),(4,.i k)],hp:=[.r ⟨3,1,true,A7 O⟩],n:=25,pin:=1 }) (fun k=>1<=k/\k<=n) (fun k=>n - k) 1 ?_ ?_ ?_
 ·omega
 ·have e:(O.drop off).take 1=[O[off]]:=by
   have:=Hj (O:=O) (off:=off) (k:=0) (by omega)
   simpa using this
  have e2:Gy O[off] [O[off]]=O[off]:=by simp [Gy]
  (refine BG ?_;simp only [Dg,go_sem,e,e2];try simp)
 rintro k ⟨hk1,hk⟩ K hK
 by_cases hlt:k<n
 rotate_left
 ·have d1:decide ((k:Int)<(n:Int))=false:=by simpa using hlt
  have hke:k=n:=by omega
  subst hke
  (refine Wu @d1 ?_;(repeat clear hK K);repeat refine kq fun K hK=>?_)
  refine WC ?_
  (refine Wx ?_;repeat clear hK K)
  (refine Wt ?_;(repeat clear hK K);repeat refine kq fun K hK=>?_)
  exact RG [0] Tryz.results134 @Af
 have d1:decide ((k:Int)<(n:Int))=true:=by simpa using hlt
 have g1:(A7 O)[off+k]?=some (.v (.int .i64 O[off+k])):=Aq (gE1 (by omega))
 (refine Wu @d1 ?_;(repeat clear hK K);repeat refine kq fun K hK=>?_)
 refine WB ?_
 (refine Wu @g1 ?_;(repeat clear hK K);repeat refine kq fun K hK=>?_)
 refine WD ?_
 refine hK _ (k+1) ⟨by omega,by omega⟩ (by omega) ?_
 have e:=Hj (O:=O) (off:=off) (k:=k) (by omega)
 (refine BG ?_;simp only [Dg,go_sem,e,MO];try simp)

def Eg (W:List Int) (l:List Int) (x:Int):List Int:=l.foldl (fun w u=>w.set u.toNat x) W
theorem Ge (l:List Int) (x:Int):∀ W,(Eg W l x).length=W.length:=by
 induction l with
 | nil=>intro W;rfl
 | cons a r ih=>intro W;show (Eg (W.set a.toNat x) r x).length=_;rw [ih,List.length_set]
theorem Lx (W l:List Int) (x y:Int):Eg W (l++[y]) x=(Eg W l x).set y.toNat x:=by unfold Eg;rw [List.foldl_append];rfl
theorem MP (l:List Int) (x:Int):∀ (W:List Int) (i:Nat),i<W.length->(∀ a∈l,0<=a)->(Eg W l x)[i]?=if (i:Int)∈l then some x else W[i]?:=by
 induction l with
 | nil=>intro W i _ _;simp [Eg]
 | cons a r ih=>
  intro W i hi h0
  show (Eg (W.set a.toNat x) r x)[i]?=_
  rw [ih _ _ (by rw [List.length_set];exact hi) (fun b hb=>h0 b (gEf _ hb))]
  have ha:=h0 a List.mem_cons_self
  by_cases h1:(i:Int)∈r
  ·rw [if_pos h1,if_pos (gEf _ h1)]
  rw [if_neg h1]
  by_cases h2:(i:Int)=a
  rotate_left
  ·rw [if_neg (by rw [List.mem_cons];rintro (h | h) <;> contradiction),gE5 (by omega)]
  rw [if_pos (by rw [h2];exact List.mem_cons_self)]
  have:a.toNat=i:=by omega
  rw [this,gEc hi]
theorem AK (L:List Int) (i:Nat) (x:Int):(A7 L).set i (.v (.int .i64 x))=A7 (L.set i x):=by simp [A7,List.map_set]

theorem Px (O W:List Int) (m k:Nat) (s:Int) (hk:k<m) (hm:m<=O.length) (hs:O[k]?=some s) (hu:∀ j,k<j->j<m->O[j]? ≠ some s) (hW:∀ j x,k<=j->j<m->O[j]?=some x->0<=x/\x<W.length) (hb:m<=140737488355328) (hb2:W.length<=140737488355328):
  FC Tryz.prog 103 [.a (.c (.s 0 m)),.i s,.a (.c (.s 1 W.length))] [AA O,AA W] (fun r o=>o=[AA O,AA (Eg W ((O.drop k).take (m - k)) (Gy s ((O.drop k).take (m - k))))]/\r=.a (.c (.s 0 k))):=by
 refine A6 Tryz.func103 rfl (by rw [Tryz.ntmps103];simp) ?_
 rw [Tryz.ntmps103]
 simp only [Bf,AA]
 have e0:(m:Int) - 1=((m - 1:Nat):Int):=by omega
 (refine Wu (an @A5 @e0) ?_;(repeat clear hK K);repeat refine kq fun K hK=>?_)
 refine A8 (fun j:Nat=>{ tm:=[(0,.a (.c (.s 0 m))),(1,.i s),(2,.a (.c (.s 1 W.length))),(7,.i j)],hp:=[.r ⟨3,1,true,A7 O⟩,.r ⟨3,1,true,A7 W⟩],n:=42,pin:=2 }) (fun j=>k<=j/\j<m) (fun j=>j) (m - 1) ?_ ?_ ?_
 ·omega
 ·exact WE
 rintro j ⟨hj1,hj2⟩ K hK
 have g1:(A7 O)[j]?=some (.v (.int .i64 O[j])):=Aq (gE1 (by omega))
 by_cases hjk:k<j
 ·have d1:(O[j] != s)=true:=by
   have:=hu j hjk hj2
   rw [gE1 (by omega)] at this
   simpa using this
  have e1:(j:Int) - 1=((j - 1:Nat):Int):=by omega
  (refine Wu (an @g1 (an @d1 @A5)) ?_;(repeat clear hK K);repeat refine kq fun K hK=>?_)
  refine WB ?_
  (refine Wu @e1 ?_;(repeat clear hK K);repeat refine kq fun K hK=>?_)
  refine WD ?_
  refine hK _ (j - 1) ⟨by omega,by omega⟩ (by omega) ?_
  exact WE
 have hje:j=k:=by omega
 subst hje
 have hOs:O[j]=s:=by rw [gE1 (by omega)] at hs;cases hs;rfl
 have d1:(O[j] != s)=false:=by simp [hOs]
 (refine Wu (an @g1 (an @d1 @A5)) ?_;(repeat clear hK K);repeat refine kq fun K hK=>?_)
 refine WC ?_
 (refine Wx ?_;repeat clear hK K)
 (refine Wu @A5 ?_;(repeat clear hK K);repeat refine kq fun K hK=>?_)
 (refine Ai rfl ?_;intro K1 hK1;refine AH (ids:=[]) [0] (RN O j (m - j) (by omega) (by omega) (by omega)) rfl rfl (by simp only [go_sem]) (by first | assumption | kernel_rfl) rfl rfl (by (simp only [List.map_append,List.append_nil,go_sem]) <;> rfl) (by (simp only [VS,AA,Af,go_sem]) <;> rfl) ?_ ?_)
 ·rintro _ _ ⟨rfl,rfl⟩;rfl
 rintro _ _ ⟨rfl,rfl⟩
 (simp only [As,Bl,AA,BQ,List.append_nil,List.nil_append,List.length_map,go_sem];refine hK1 _ ?_;clear hK1 K1)
 generalize hM:Gy O[j] ((O.drop j).take (m - j))=M
 (refine Wu @A5 ?_;(repeat clear hK K);repeat refine kq fun K hK=>?_)
 refine A8 (fun i:Nat=>{ tm:=[(0,.a (.c (.s 0 m))),(2,.a (.c (.s 1 W.length))),(7,.i j),(8,.i M),(28,.a (.c (.w 0 j (m - j) 1))),(29,.i ((m - j:Nat):Int)),(30,.i i)],hp:=[.r ⟨3,1,true,A7 O⟩,.r ⟨3,1,true,A7 (Eg W ((O.drop j).take i) M)⟩],n:=42,pin:=2 }) (fun i=>i<=m - j) (fun i=>m - j - i) 0 ?_ ?_ ?_
 ·omega
 ·(refine BG ?_;simp only [Dg,go_sem,Eg,List.foldl_nil];try simp)
 rintro i hi K hK
 by_cases hlt:i<m - j
 rotate_left
 ·have d2:decide ((i:Int)<((m - j:Nat):Int))=false:=by simp;omega
  have hie:i=m - j:=by omega
  subst hie
  (refine Wu @d2 ?_;(repeat clear hK K);repeat refine kq fun K hK=>?_)
  refine WC ?_
  (refine Wx ?_;repeat clear hK K)
  (refine Wu @A5 ?_;(repeat clear hK K);repeat refine kq fun K hK=>?_)
  refine WG [0,1] Tryz.results103 @Af ?_
  rw [<- hOs,hM]
 have d2:decide ((i:Int)<((m - j:Nat):Int))=true:=by simp;omega
 have g2:(A7 O)[j+i]?=some (.v (.int .i64 O[j+i])):=Aq (gE1 (by omega))
 have hx:=hW (j+i) _ (by omega) (by omega) (gE1 (by omega))
 have e:=Hj (O:=O) (off:=j) (k:=i) (by omega)
 have hl:=Ge ((O.drop j).take i) M W
 (refine Wu @d2 ?_;(repeat clear hK K);repeat refine kq fun K hK=>?_)
 refine WB ?_
 (refine Cn (an @g2 (an @A5 (an @hl @AK))) ?_;(repeat clear hK K);repeat refine kq fun K hK=>?_)
 refine WD ?_
 refine hK _ (i+1) (by omega) (by omega) ?_
 simp only [e,Lx]
 exact WE

theorem E4 {α:Type} (p:α->Bool) (l:List α) (k:Nat) (h1:∀ j x,j<k->l[j]?=some x->p x=true) (h2:∀ x,l[k]?=some x->p x=false):l.takeWhile p=l.take k:=by
 induction l generalizing k with
 | nil=>simp
 | cons a r ih=>
  cases k with
  | zero=>have:=h2 a rfl;simp [List.takeWhile_cons,this]
  | succ k=>
   have:=h1 0 a (by omega) rfl
   rw [List.takeWhile_cons,if_pos this,List.take_succ_cons,ih k (fun j x hj hx=>h1 (j+1) x (by omega) hx) (fun x hx=>h2 x hx)]
def BR (t:Bool) (r:List Ar):List Ar:=if t then r.takeWhile fun a=>a.1 == 0 else r
theorem Hk (R:List (List Ar)) (s:Nat) (t:Bool) (hs:s<R.length) (hn:R.length<=140737488355328) (hr:R[s].length<=140737488355328):FC Tryz.prog 102 [B7 R,.i s,.b t] [] (fun r o=>o=[]/\r=.a (.c (.t 2 (Ao (BR t R[s]))))):=by
 refine A6 Tryz.func102 rfl (by rw [Tryz.ntmps102];simp) ?_
 rw [Tryz.ntmps102]
 simp only [Bf,B7]
 have hg:=gE1 hs
 cases t with
 | false=>
  (refine Wu (an @A3 (an (Ag hg) @Bool.not_false)) ?_;(repeat clear hK K);repeat refine kq fun K hK=>?_)
  refine WB ?_
  (refine Wt ?_;(repeat clear hK K);repeat refine kq fun K hK=>?_)
  refine WF [] Tryz.results102 ?_
  simp [BR]
 | true=>
  (refine Wu (an @A3 (an (Ag hg) @Bool.not_true)) ?_;(repeat clear hK K);repeat refine kq fun K hK=>?_)
  refine WC ?_
  (refine Wt ?_;(repeat clear hK K);repeat refine kq fun K hK=>?_)
  refine A8 (fun k:Nat=>{ tm:=[(7,.a (.c (.t 2 (Ao R[s])))),(8,.i k)],hp:=[.r ⟨25,1,false,[.t 1 (Ah R)]⟩],n:=34,pin:=0 }) (fun k=>k<=R[s].length/\∀ j x,j<k->R[s][j]?=some x->(x.1 == 0)=true) (fun k=>R[s].length - k) 0 ?_ ?_ ?_
  ·exact ⟨by omega,fun j x h=>by omega⟩
  ·exact WE
  rintro k ⟨hk,he⟩ K hK
  by_cases hlt:k<R[s].length
  rotate_left
  ·have d1:decide ((k:Int)<(R[s].length:Int))=false:=by simpa using hlt
   (refine Wu (an @d1 (an @A2 @Ak)) ?_;(repeat clear hK K);repeat refine kq fun K hK=>?_)
   refine WC ?_
   (refine Wx ?_;repeat clear hK K)
   have ek:=E4 (fun a:Ar=>a.1 == 0) R[s] k he (fun x hx=>by
    first
     | (rw [gE1 hlt] at hx;cases hx;exact q1)
     | (rw [List.getElem?_eq_none (by omega)] at hx;cases hx))
   (refine Wu (an @A2 (an @Ak @BA)) ?_;(repeat clear hK K);repeat refine kq fun K hK=>?_)
   refine WF [] Tryz.results102 ?_
   simp only [BR,if_pos,ek]
  have d1:decide ((k:Int)<(R[s].length:Int))=true:=by simpa using hlt
  have ha0:=CC hlt
  cases q1:(R[s][k].1 == 0) with
  | true=>
   (refine Wu (an @d1 (an @q1 (an @ha0 (an @A2 @Ak)))) ?_;(repeat clear hK K);repeat refine kq fun K hK=>?_)
   refine WB ?_
   (refine Wt ?_;(repeat clear hK K);repeat refine kq fun K hK=>?_)
   refine WD ?_
   refine hK _ (k+1) ⟨by omega,fun j x hj hx=>?_⟩ (by omega) ?_
   rotate_left
   ·exact WE
   rcases Nat.lt_or_ge j k with h | h
   ·exact he j x h hx
   have:j=k:=by omega
   subst this
   rw [gE1 hlt] at hx;cases hx;exact q1
  | false=>
   (refine Wu (an @d1 (an @q1 (an @ha0 (an @A2 @Ak)))) ?_;(repeat clear hK K);repeat refine kq fun K hK=>?_)
   refine WC ?_
   (refine Wx ?_;repeat clear hK K)
   have ek:=E4 (fun a:Ar=>a.1 == 0) R[s] k he (fun x hx=>by
    first
     | (rw [gE1 hlt] at hx;cases hx;exact q1)
     | (rw [List.getElem?_eq_none (by omega)] at hx;cases hx))
   (refine Wu (an @A2 (an @Ak @BA)) ?_;(repeat clear hK K);repeat refine kq fun K hK=>?_)
   refine WF [] Tryz.results102 ?_
   simp only [BR,if_pos,ek]
open Go.RowKit Go.Shelf
theorem TX {P:Program} {f:FuncId} {args:List AV} {vals:List Value} {a b:Value} (ha:∀ (g:Gh) (w:World) (vs:List Value),GA g [] w args vs->vs=vals)
  (h:∀ w,Calls P f vals.toArray w fun e w'=>e=.returned (.tuple #[a,b])/\Fp (fun _=>False) w w'):FC P f args [] (fun x o=>o=[]/\x=.tup [.c (.v a),.c (.v b)]):=by
 intro g w vs hr hargs
 obtain rfl:=ha g w vs hargs
 refine (h w).mono ?_
 rintro e w' ⟨rfl,hf⟩
 refine ⟨_,_,[],g,rfl,⟨rfl,rfl⟩,?_,⟨Nat.le_refl _,Ext.refl _ _⟩,fun ℓ hl=>?_,⟨[a,b],rfl,rfl,fun i x hx=>?_⟩,hf.mono (fun _ _ h=>h.elim)⟩
 ·exact ⟨fun q hq=>Nat.lt_of_lt_of_le (hr.ml q hq) hf.size,fun ℓ hl=>hr.md ℓ hl,hr.inj,fun id r e=>by simp at e,fun id kv e=>by simp at e,hr.gl.keep hf.size (fun k hk _=>hf.block k hk (fun h=>h)) (fun _ _ h=>h)⟩
 ·cases ℓ with
  | ob i=>rcases hl with ⟨r,e,_⟩ | ⟨kv,e⟩ <;> simp at e
  | cl i j=>obtain ⟨r,k,cs,e,_⟩:=hl;simp at e
 match i,hx with
 | 0,hx=>simp at hx;subst hx;exact ⟨a,rfl,rfl⟩
 | 1,hx=>simp at hx;subst hx;exact ⟨b,rfl,rfl⟩
 | i+2,hx=>simp at hx
theorem RO (n:Nat) (hn:n<=1000000):FC Tryz.prog 99 [.a (.c (.v (.int .u64 1))),.a (.c (.v (.int .u64 n)))] [] (fun x o=>o=[]/\x=.tup [.c (.v (.int .u64 0)),.c (.v (.int .u64 n))]):=by
 refine TX (vals:=[.int .u64 1,.int .u64 n]) (fun g w vs hv=>?_) fun w=>?_
 ·obtain ⟨h0,h1⟩:=hv
  obtain ⟨v,e1,e2⟩:=h1 0 _ rfl
  obtain ⟨u,e3,e4⟩:=h1 1 _ rfl
  match vs,h0 with
  | [x,y],_=>simp at e1 e3;subst e1;subst e3;rw [show x=_ from e2,show y=_ from e4]
 have hmul:=Any.bits_Mul Tryz.bitsMul 1 n (by omega) (by omega) w
 rw [Nat.one_mul,Nat.div_eq_of_lt (by omega:n<18446744073709551616),Nat.mod_eq_of_lt (by omega:n<18446744073709551616)] at hmul
 exact hmul.mono fun e w' h=>⟨h.1,by rw [h.2];exact Fp.refl _ _⟩

def IL (x:Int) (j m:Nat):List Int:=List.replicate j x++List.replicate m 0
theorem Py (x:Int) (j m:Nat):(IL x j m).length=j+m:=by simp [IL]
theorem K7 (x:Int) (l:Nat):∀ j m,l<=m->DJ (A7 (IL x j m)) j (A7 (List.replicate l x))=A7 (IL x (j+l) (m - l)):=by
 induction l with
 | zero=>intro j m _;rfl
 | succ l ih=>
  intro j m h
  rw [List.replicate_succ]
  show DJ ((A7 (IL x j m)).set j (.v (.int .i64 x))) (j+1) (A7 (List.replicate l x))=_
  have e:(A7 (IL x j m)).set j (.v (.int .i64 x))=A7 (IL x (j+1) (m - 1)):=by
   rw [AK,IL,List.set_append_right _ _ (by simp),IL]
   congr 1
   obtain ⟨m',rfl⟩:∃ m',m=m'+1:=⟨m - 1,by omega⟩
   rw [List.length_replicate,Nat.sub_self,List.replicate_succ,List.set_cons_zero,Nat.add_sub_cancel,List.replicate_succ' (n:=j),List.append_assoc]
   rfl
  rw [e,ih (j+1) (m - 1) (by omega),show j+1+l=j+(l+1) from by omega,show m - 1 - l=m - (l+1) from by omega]
theorem Gf (x:Int) (j m l:Nat) (h:l<=j):(A7 (IL x j m)).take l=A7 (List.replicate l x):=by
 rw [AG,IL,List.take_append_of_le_length (by simpa using h),List.take_replicate,Nat.min_eq_left h]

theorem Gg (x:Int) (n:Nat) (h1:1<=n) (hn:n<=1000000):FC Tryz.prog 65 [.a (.c (.s 0 1)),.i n] [AA [x]] (fun r o=>o=[AA [x],AA (List.replicate n x)]/\r=.a (.c (.s 1 n))):=by
 refine A6 Tryz.func65 rfl (by rw [Tryz.ntmps65];simp) ?_
 rw [Tryz.ntmps65]
 simp only [Bf,AA]
 have d0:decide ((n:Int)<0)=false:=by simp
 have w1:IntKind.u64.wrap (1:Int)=1:=IntWalk.u64_in _ (by omega)
 have w2:IntKind.u64.wrap (n:Int)=n:=IntWalk.u64_in _ (by omega)
 have w3:IntKind.i64.wrap (n:Int)=n:=IntWalk.i64_in _ (by omega)
 have u1:=Tryz.underlying3
 have u2:=Tryz.underlying114
 have d3:decide ((n:Int) > 9223372036854775807)=false:=by simp;omega
 have d4:decide ((0:Int) > 0)=false:=by simp
 (refine Wu @d0 ?_;(repeat clear hK K);repeat refine kq fun K hK=>?_)
 refine WC ?_
 (refine Wu (an @w1 (an @w2 (an @u1 (an @u2 @Int.natCast_one)))) ?_;(repeat clear hK K);repeat refine kq fun K hK=>?_)
 (refine Wy (RO n hn) ?_;intro K1 hK1)
 rintro _ _ ⟨rfl,rfl⟩
 (refine Wz ?_;clear hK1 K1)
 (refine Wu (an @d3 @d4) ?_;(repeat clear hK K);repeat refine kq fun K hK=>?_)
 refine WC ?_
 (refine Wu (an @w3 (an @u1 @u2)) ?_;(repeat clear hK K);repeat refine kq fun K hK=>?_)
 (refine Ai rfl ?_;intro K1 hK1;refine JS (l:=1) rfl rfl (by simp only [go_sem] <;> rfl) rfl (by simp only [go_sem] <;> rfl) (by simp only [go_sem,QX] <;> rfl) (by simp only [go_sem,QX] <;> rfl) (by simp only [go_sem] <;> rfl) (by simp only [go_sem] <;> rfl) (by omega) (by omega) (by simp only [go_sem] <;> omega) rfl ?_ ?_ ?_ ?_)
 ·rfl
 ·rfl
 ·simp only [go_sem,List.length_replicate];omega
 have f0:DJ (List.replicate n (C.v (.int .i64 0))) 0 (List.take 1 (A7 [x]))=A7 (IL x 1 (n - 1)):=by
  have h:=K7 x 1 0 n h1
  rw [Nat.zero_add] at h
  rw [<- h]
  have e1:A7 (IL x 0 n)=List.replicate n (C.v (.int .i64 0)):=by simp [IL,A7]
  rw [e1];rfl
 simp only [go_sem,f0]
 refine hK1 _ ?_;clear hK1 K1
 (refine Wt ?_;(repeat clear hK K);repeat refine kq fun K hK=>?_)
 refine A8 (fun j:Nat=>{ tm:=[(7,.a (.c (.s 1 n))),(8,.i j)],hp:=[.r ⟨3,1,true,A7 [x]⟩,.r ⟨3,1,true,A7 (IL x j (n - j))⟩],n:=48,pin:=1 }) (fun j=>1<=j/\j<=n) (fun j=>n - j) 1 ?_ ?_ ?_
 ·omega
 ·exact WE
 rintro j ⟨hj1,hj⟩ K hK
 have hfl:=Py x j (n - j)
 by_cases hlt:j<n
 rotate_left
 ·have d1:decide ((j:Int)<(n:Int))=false:=by simpa using hlt
  have hje:j=n:=by omega
  subst hje
  (refine Wu @d1 ?_;(repeat clear hK K);repeat refine kq fun K hK=>?_)
  refine WC ?_
  (refine Wx ?_;repeat clear hK K)
  (refine Wt ?_;(repeat clear hK K);repeat refine kq fun K hK=>?_)
  refine WG [0,1] Tryz.results65 @Af ?_
  rw [Nat.sub_self,IL,List.replicate_zero,List.append_nil]
 have d1:decide ((j:Int)<(n:Int))=true:=by simpa using hlt
 (refine Wu @d1 ?_;(repeat clear hK K);repeat refine kq fun K hK=>?_)
 refine WB ?_
 (refine Wt ?_;(repeat clear hK K);repeat refine kq fun K hK=>?_)
 (refine Bz [] [(0,0,0),(1,0,0),(2,0,0),(3,0,0),(4,0,0),(5,0,0),(6,0,0),(7,2,0),(8,0,0),(9,0,0)] (by kernel_rfl) (by kernel_rfl) (by intro c st h;simp [Ae,AF,VT] at h) ?_)
 (refine Wr ?_;repeat clear hK K)
 (refine Wg rfl rfl rfl ?_;intro K1 hK1;refine JS (l:=min j (n - j)) rfl rfl (by simp only [go_sem] <;> rfl) rfl (by simp only [go_sem] <;> rfl) (by simp only [go_sem,QX] <;> rfl) (by simp only [go_sem,QX] <;> rfl) (by simp only [go_sem] <;> rfl) (by simp only [go_sem] <;> rfl) rfl (by omega) (by simp only [go_sem] <;> omega) rfl ?_ ?_ ?_ ?_)
 ·simp only [go_sem,Gf x j (n - j) _ (Nat.min_le_left _ _),AU]
 ·simp only [go_sem,Gf x j (n - j) _ (Nat.min_le_left _ _),A5,List.length_replicate]
 ·simp only [go_sem,A5,hfl];omega
 simp only [go_sem,Gf x j (n - j) _ (Nat.min_le_left _ _),K7 x _ j (n - j) (Nat.min_le_right _ _)]
 refine hK1 _ ?_;clear hK1 K1
 (refine Wr ?_;repeat clear hK K)
 refine Po ⟨by simp,by simp,?_⟩
 simp only [Ae,AF]
 refine hK _ (j+min j (n - j)) ⟨by omega,by omega⟩ (by omega) ?_
 have e:n - (j+min j (n - j))=n - j - min j (n - j):=by omega
 simp only [e]
 (refine BG ?_;simp only [Dg,go_sem,Int.natCast_add];try simp)
attribute [local go_sem] List.set_cons_zero List.set_cons_succ List.map_cons List.map_nil List.take_succ_cons List.take_zero List.drop_zero List.drop_succ_cons C.pl C.one List.all_cons List.all_nil Bool.and_true
def WL:List Int->Int
 | []=>0
 | x :: r=>if x ≠ 0 then x else WL r
theorem K8 (xs:List Int) (hn:xs.length<=100000000):FC Tryz.prog 97 [As xs] [] (fun r o=>o=[]/\r=.i (WL xs)):=by
 refine A6 Tryz.func97 rfl (by rw [Tryz.ntmps97];simp) ?_
 rw [Tryz.ntmps97]
 simp only [Bf,As]
 (refine Wu @A4 ?_;(repeat clear hK K);repeat refine kq fun K hK=>?_)
 refine A8 (fun k:Nat=>{ tm:=[(3,.i 0),(6,.a (.c (.t 1 (Ab xs)))),(7,.i xs.length),(8,.i k)],hp:=[],n:=18,pin:=0 }) (fun k=>k<=xs.length/\WL xs=WL (xs.drop k)) (fun k=>xs.length - k) 0 ?_ ?_ ?_
 ·exact ⟨by omega,rfl⟩
 ·exact WE
 rintro k ⟨hk,he⟩ K hK
 (refine Wt ?_;(repeat clear hK K);repeat refine kq fun K hK=>?_)
 (refine At ?_;intro X Y hX hY;simp only [go_sem])
 refine ⟨fun h=>hX ?_,fun h=>hY ?_⟩
 rotate_left
 ·clear hX hY X Y
  have hge:k=xs.length:=by simp at h;omega
  (refine Wx ?_;repeat clear hK K)
  (refine Wt ?_;(repeat clear hK K);repeat refine kq fun K hK=>?_)
  refine WH Tryz.results97 ?_
  have hd:xs.drop k=[]:=List.drop_eq_nil_of_le (by omega)
  rw [he,hd];try rfl
 have hlt:k<xs.length:=by simpa using h
 rw [Pt hlt] at he
 clear hX hY X Y h
 (refine Wu (an @A4 (Am (gE1 hlt))) ?_;(repeat clear hK K);repeat refine kq fun K hK=>?_)
 (refine At ?_;intro X Y hX hY;simp only [go_sem])
 refine ⟨fun h=>hX ?_,fun h=>hY ?_⟩
 ·clear hX hY X Y
  (refine Wt ?_;(repeat clear hK K);repeat refine kq fun K hK=>?_)
  refine WH Tryz.results97 ?_
  have:xs[k] ≠ 0:=by simpa using h
  rw [he,WL,if_pos this]
 clear hX hY X Y
 (refine Wt ?_;(repeat clear hK K);repeat refine kq fun K hK=>?_)
 refine WD ?_
 refine hK _ (k+1) ⟨by omega,?_⟩ (by omega) ?_
 ·have:xs[k]=0:=by simpa using h
  rw [he,WL,if_neg (by simp [this])]
 exact WE
theorem MQ (a b:Ar):WL [Fv a.1 b.1,Fv a.2 b.2]=Gc a b:=by
 simp only [WL,Gc]
 split
 ·rfl
 split
 ·rfl
 rename_i h;simpa using Eq.symm (by simpa using h)
theorem Je (a b:Ar):FC Tryz.prog 64 [.a (.g [.v (.int .i64 a.1),.v (.int .i64 a.2)]),.a (.g [.v (.int .i64 b.1),.v (.int .i64 b.2)])] [] (fun r o=>o=[]/\r=.i (Gc a b)):=by
 refine A6 Tryz.func64 rfl (by rw [Tryz.ntmps64];simp) ?_
 rw [Tryz.ntmps64]
 simp only [Bf]
 (refine Wu (an @List.set_cons_zero.{0} @List.set_cons_succ.{0}) ?_;(repeat clear hK K);repeat refine kq fun K hK=>?_)
 (refine Bz [] [(0,0,0),(2,0,0),(5,0,0),(7,0,0),(1,1,4),(3,1,4),(6,1,9),(8,1,9),(4,2,0),(9,2,0),(10,2,0),(11,2,0),(12,2,0)] (by kernel_rfl) (by kernel_rfl) (by intro c st h;simp [Ae,AF,VT] at h) ?_)
 (refine Wr ?_;repeat clear hK K)
 (refine Wf rfl rfl ?_;intro K1 hK1;refine AZ ?_;refine xv [] (K6 a.1 b.1) ?_ ?_)
 ·rintro _ _ ⟨rfl,rfl⟩ i o hi hl;simp at hl
 rintro _ _ ⟨rfl,rfl⟩
 (refine Wz ?_;clear hK1 K1)
 (refine Wr ?_;repeat clear hK K)
 (refine Wf rfl rfl ?_;intro K1 hK1;refine AZ ?_;refine xv [] (K6 a.2 b.2) ?_ ?_)
 ·rintro _ _ ⟨rfl,rfl⟩ i o hi hl;simp at hl
 rintro _ _ ⟨rfl,rfl⟩
 (refine Wz ?_;clear hK1 K1)
 (refine Wr ?_;repeat clear hK K)
 (refine Wg rfl rfl rfl ?_;intro K1 hK1;refine AP rfl ?_;simp only [go_sem,List.set_cons_zero,List.set_cons_succ];(first | refine hK1 _ ?_ | refine AD (hK1 _ ?_));clear hK1 K1)
 (refine Vg (Bg (r:=⟨3,1,true,A7 [Fv a.1 b.1,Fv a.2 b.2]⟩) 2 (Ab [Fv a.1 b.1,Fv a.2 b.2]) rfl (EM _) (show 0<(1:Nat) by omega)) ?_;simp only [ST.frz,A0.frz,AV.frz,C.frz,Nat.le_refl,List.set_cons_zero,List.set_cons_succ,go_sem,A4,Az,List.length_cons,List.length_nil,List.take_succ_cons,List.take_zero])
 (refine Wr ?_;repeat clear hK K)
 (refine Wf rfl rfl ?_;intro K1 hK1;refine AZ ?_;refine BW (ids:=[]) [] (K8 [Fv a.1 b.1,Fv a.2 b.2] (by simp)) rfl rfl (by simp only [go_sem]) (by kernel_rfl) rfl rfl rfl (by (simp only [List.map_append,List.append_nil,go_sem]) <;> rfl) (by (simp only [VS,As,go_sem]) <;> rfl) ?_ ?_)
 ·rintro _ _ ⟨rfl,rfl⟩ i o hi hl;simp at hl
 rintro _ _ ⟨rfl,rfl⟩
 (refine Wz ?_;clear hK1 K1)
 (refine Wg rfl rfl rfl ?_;intro K1 hK1;refine AP rfl ?_;simp only [go_sem];(first | refine hK1 _ ?_ | refine AD (hK1 _ ?_));clear hK1 K1)
 (refine Wr ?_;repeat clear hK K)
 refine WF [] Tryz.results64 ?_
 rw [MQ]
def WM (n:Nat) (a:Ar):Prop:=0<=a.1/\a.1<=1025/\0<=a.2/\a.2<(n:Int)
theorem K9 {R:List (List Ar)} (h1:1<=R.length) (h2:R.length<=16384) (h3:Bw (R.take R.length)<=262144) (h4:∀ i r,i<R.length->R[i]?=some r->∀ a∈r,WM R.length a):BE R=true:=by
 rw [List.take_length] at h3
 rw [BE,decide_eq_true_iff]
 refine ⟨h1,h2,h3,fun r hr a ha=>?_⟩
 obtain ⟨i,hi⟩:=List.mem_iff_getElem?.1 hr
 exact h4 i r (List.getElem?_eq_some_iff.1 hi).1 hi a ha
theorem Ka {R:List (List Ar)} {k:Nat} (h:262144<Bw (R.take k)):BE R=false:=by
 rw [BE,decide_eq_false_iff_not]
 intro h2
 have:=Hi R k
 have:=h2.2.2.1
 unfold Ts at this
 omega
theorem Kb {R:List (List Ar)} {i j:Nat} {r:List Ar} {a:Ar} (hr:R[i]?=some r) (ha:r[j]?=some a) (h:¬ WM R.length a):BE R=false:=by
 rw [BE,decide_eq_false_iff_not]
 exact fun h2=>h (h2.2.2.2 r (gE9 hr) a (gE9 ha))
theorem Kc {R:List (List Ar)} (h:¬ 1<=R.length):BE R=false:=by
 rw [BE,decide_eq_false_iff_not];exact fun h2=>h h2.1
theorem Ik {R:List (List Ar)} (h:¬ R.length<=16384):BE R=false:=by
 rw [BE,decide_eq_false_iff_not];exact fun h2=>h h2.2.1
theorem Kd {R:List (List Ar)} {i j:Nat} {r:List Ar} {a b:Ar} (hr:R[i]?=some r) (ha:r[j]?=some a) (hb:r[j+1]?=some b) (h:WK a b=false):Bv R=false:=by
 rw [Bv,decide_eq_false_iff_not]
 exact fun h2=>Ij ha hb h (h2.2 r (gE9 hr))
theorem Ke {R:List (List Ar)} (h:BE R=true) (h2:∀ i r,i<R.length->R[i]?=some r->SortA r):Bv R=true:=by
 rw [BE,decide_eq_true_iff] at h
 rw [Bv,decide_eq_true_iff]
 refine ⟨h,fun r hr=>?_⟩
 obtain ⟨i,hi⟩:=List.mem_iff_getElem?.1 hr
 exact h2 i r (List.getElem?_eq_some_iff.1 hi).1 hi


set_option maxHeartbeats 1000000 in
theorem Kf (R:List (List Ar)) (hn:R.length<=140737488355328) (hr:∀ r∈R,r.length<=140737488355328):FC Tryz.prog 63 [B7 R] [] (fun r o=>o=[]/\r=.b (BE R)):=by
 refine A6 Tryz.func63 rfl (by rw [Tryz.ntmps63];simp) ?_
 rw [Tryz.ntmps63]
 simp only [Bf,B7]
 by_cases g1:(R.length:Int)<1
 ·have e1:decide ((R.length:Int)<1)=true:=by simpa using g1
  (refine Wu (an @e1 (an @A3 (an @List.set_cons_zero.{0} @List.set_cons_succ.{0}))) ?_;(repeat clear hK K);repeat refine kq fun K hK=>?_)
  refine WB ?_
  (refine Wt ?_;(repeat clear hK K);repeat refine kq fun K hK=>?_)
  refine WF [] Tryz.results63 ?_
  rw [Kc (by omega)]
 have e1:decide ((R.length:Int)<1)=false:=by simpa using g1
 by_cases g2:(R.length:Int) > 16384
 ·have e2:decide ((R.length:Int) > 16384)=true:=by simpa using g2
  (refine Wu (an @e1 (an @e2 (an @A3 (an @List.set_cons_zero.{0} @List.set_cons_succ.{0})))) ?_;(repeat clear hK K);repeat refine kq fun K hK=>?_)
  refine WB ?_
  (refine Wt ?_;(repeat clear hK K);repeat refine kq fun K hK=>?_)
  refine WF [] Tryz.results63 ?_
  rw [Ik (by omega)]
 have e2:decide ((R.length:Int) > 16384)=false:=by simpa using g2
 (refine Wu (an @e1 (an @e2 (an @A3 (an @List.set_cons_zero.{0} @List.set_cons_succ.{0})))) ?_;(repeat clear hK K);repeat refine kq fun K hK=>?_)
 refine WC ?_
 (refine Wu @A3 ?_;(repeat clear hK K);repeat refine kq fun K hK=>?_)
 refine A8 (fun k:Nat=>{ tm:=[(1,.a (.c (.p 0 0))),(3,.i R.length),(4,.i (262144 - (Bw (R.take k):Int))),(19,.a (.c (.t 1 (Ah R)))),(20,.i R.length),(21,.i k)],hp:=[.r ⟨25,1,false,[.t 1 (Ah R)]⟩],n:=60,pin:=0 }) (fun k=>k<=R.length/\Bw (R.take k)<=262144/\∀ i r,i<k->R[i]?=some r->∀ a∈r,WM R.length a) (fun k=>R.length - k) 0 ?_ ?_ ?_
 ·exact ⟨by omega,by simp [Bw],fun i _ hi=>by omega⟩
 ·(refine BG ?_;simp only [Dg,go_sem,List.take_zero,Bw,List.map_nil,List.sum_nil,Int.natCast_zero,Int.sub_zero];try simp)
 rintro k ⟨hk,hto,hc⟩ K hK
 by_cases hlt:k<R.length
 rotate_left
 ·have hl1:decide ((k:Int)<(R.length:Int))=false:=by simpa using hlt
  have hke:k=R.length:=by omega
  (refine Wu @hl1 ?_;(repeat clear hK K);repeat refine kq fun K hK=>?_)
  refine WC ?_
  (refine Wx ?_;repeat clear hK K)
  (refine Wt ?_;(repeat clear hK K);repeat refine kq fun K hK=>?_)
  refine WF [] Tryz.results63 ?_
  rw [K9 (by omega) (by omega) (by rw [<- hke];exact hto) (by rw [<- hke];intro i r hi;rw [hke];exact hc i r hi)]
 have hl1:decide ((k:Int)<(R.length:Int))=true:=by simpa using hlt
 have hgk:=gE1 hlt
 have hrk:=hr _ (gE6 hlt)
 have htk:=Cj hlt
 generalize hW:Bw (R.take k)=W at *
 (refine Wu @hl1 ?_;(repeat clear hK K);repeat refine kq fun K hK=>?_)
 refine WB ?_
 (refine Wu (an (Ag hgk) (an @A3 (an @A2 @Ak))) ?_;(repeat clear hK K);repeat refine kq fun K hK=>?_)
 (refine At ?_;intro X Y hX hY;simp only [go_sem])
 refine ⟨fun h=>hX ?_,fun h=>hY ?_⟩
 ·have hbig:262144<Bw (R.take (k+1)):=by simp at h;omega
  clear hX hY X Y
  (refine Wt ?_;(repeat clear hK K);repeat refine kq fun K hK=>?_)
  refine WF [] Tryz.results63 ?_
  rw [Ka hbig]
 have hsm:Bw (R.take (k+1))<=262144:=by simp at h;omega
 have e3:(262144 - (W:Int) - (R[k].length:Int))=262144 - (Bw (R.take (k+1)):Int):=by omega
 clear hX hY X Y
 (refine Wu (an @A2 (an @Ak @e3)) ?_;(repeat clear hK K);repeat refine kq fun K hK=>?_)
 refine A8 (fun j:Nat=>{ tm:=[(1,.a (.c (.p 0 0))),(3,.i R.length),(4,.i (262144 - (Bw (R.take (k+1)):Int))),(19,.a (.c (.t 1 (Ah R)))),(20,.i R.length),(21,.i k),(33,.a (.c (.t 2 (Ao R[k])))),(34,.i R[k].length),(35,.i j)],hp:=[.r ⟨25,1,false,[.t 1 (Ah R)]⟩],n:=60,pin:=0 }) (fun j=>j<=R[k].length/\∀ i a,i<j->R[k][i]?=some a->WM R.length a) (fun j=>R[k].length - j) 0 ?_ ?_ ?_
 ·exact ⟨by omega,fun i _ hi=>by omega⟩
 ·exact WE
 rintro j ⟨hj,hj2⟩ K hK
 by_cases hltj:j<R[k].length
 rotate_left
 ·have hl2:decide ((j:Int)<(R[k].length:Int))=false:=by simpa using hltj
  have hje:j=R[k].length:=by omega
  (refine Wu @hl2 ?_;(repeat clear hK K);repeat refine kq fun K hK=>?_)
  refine WC ?_
  (refine Wx ?_;repeat clear hK K)
  (refine Wt ?_;(repeat clear hK K);repeat refine kq fun K hK=>?_)
  refine WD ?_
  refine hK _ (k+1) ⟨by omega,hsm,fun i r hi hir a ha=>?_⟩ (by omega) ?_
  rotate_left
  ·exact WE
  by_cases e:i=k
  rotate_left
  ·exact hc i r (by omega) hir a ha
  subst e;rw [hgk] at hir;cases hir
  obtain ⟨q,hq⟩:=List.mem_iff_getElem?.1 ha
  exact hj2 q a (by rw [hje];exact (List.getElem?_eq_some_iff.1 hq).1) hq
 have hl2:decide ((j:Int)<(R[k].length:Int))=true:=by simpa using hltj
 have hgj:=gE1 hltj
 have haj:=AL hltj
 (refine Wu @hl2 ?_;(repeat clear hK K);repeat refine kq fun K hK=>?_)
 refine WB ?_
 have bad:¬ WM R.length R[k][j]->BE R=false:=fun h=>Kb hgk hgj h
 by_cases c1:R[k][j].1<0
 ·have d1:decide (R[k][j].1<0)=true:=by simpa using c1
  (refine Wu (an @d1 (an @A2 (an @Ak @haj))) ?_;(repeat clear hK K);repeat refine kq fun K hK=>?_)
  refine WB ?_
  (refine Wt ?_;(repeat clear hK K);repeat refine kq fun K hK=>?_)
  refine WF [] Tryz.results63 ?_
  rw [bad (fun h=>by have:=h.1;omega)]
 have d1:decide (R[k][j].1<0)=false:=by simpa using c1
 by_cases c2:R[k][j].1 > 1025
 ·have d2:decide (R[k][j].1 > 1025)=true:=by simpa using c2
  (refine Wu (an @d1 (an @d2 (an @A2 (an @Ak @haj)))) ?_;(repeat clear hK K);repeat refine kq fun K hK=>?_)
  refine WB ?_
  (refine Wt ?_;(repeat clear hK K);repeat refine kq fun K hK=>?_)
  refine WF [] Tryz.results63 ?_
  rw [bad (fun h=>by have:=h.2.1;omega)]
 have d2:decide (R[k][j].1 > 1025)=false:=by simpa using c2
 by_cases c3:R[k][j].2<0
 ·have d3:decide (R[k][j].2<0)=true:=by simpa using c3
  (refine Wu (an @d1 (an @d2 (an @d3 (an @A2 (an @Ak @haj))))) ?_;(repeat clear hK K);repeat refine kq fun K hK=>?_)
  refine WB ?_
  (refine Wt ?_;(repeat clear hK K);repeat refine kq fun K hK=>?_)
  refine WF [] Tryz.results63 ?_
  rw [bad (fun h=>by have:=h.2.2.1;omega)]
 have d3:decide (R[k][j].2<0)=false:=by simpa using c3
 by_cases c4:R[k][j].2>=(R.length:Int)
 ·have d4:decide (R[k][j].2>=(R.length:Int))=true:=by simpa using c4
  (refine Wu (an @d1 (an @d2 (an @d3 (an @d4 (an @A2 (an @Ak @haj)))))) ?_;(repeat clear hK K);repeat refine kq fun K hK=>?_)
  refine WB ?_
  (refine Wt ?_;(repeat clear hK K);repeat refine kq fun K hK=>?_)
  refine WF [] Tryz.results63 ?_
  rw [bad (fun h=>by have:=h.2.2.2;omega)]
 have d4:decide (R[k][j].2>=(R.length:Int))=false:=by simpa using c4
 have hck:WM R.length R[k][j]:=⟨by omega,by omega,by omega,by omega⟩
 (refine Wu (an @d1 (an @d2 (an @d3 (an @d4 (an @A2 (an @Ak @haj)))))) ?_;(repeat clear hK K);repeat refine kq fun K hK=>?_)
 refine WC ?_
 (refine Wt ?_;(repeat clear hK K);repeat refine kq fun K hK=>?_)
 refine WD ?_
 refine hK _ (j+1) ⟨by omega,fun i a hi ha=>?_⟩ (by omega) ?_
 ·by_cases e:i=j
  ·subst e;rw [hgj] at ha;cases ha;exact hck
  exact hj2 i a (by omega) ha
 refine Le.trans (A9 [0] rfl rfl) ?_
 (try simp only [List.set_nil,List.take_nil,List.take_zero,List.map_append,go_sem])
 exact WE

set_option maxHeartbeats 1000000 in
theorem CD (R:List (List Ar)) (hn:R.length<=140737488355328) (hr:∀ r∈R,r.length<=140737488355328):FC Tryz.prog 34 [B7 R] [] (fun r o=>o=[]/\r=.b (Bv R)):=by
 refine A6 Tryz.func34 rfl (by rw [Tryz.ntmps34];simp) ?_
 rw [Tryz.ntmps34]
 simp only [Bf,B7]
 (repeat (first | (refine AC ?_;intro K hK) | refine Aj ?_ | refine Ad ?_ | (refine B5 rfl rfl ?_;intro K1 hK1;simp only [go_sem,List.set_cons_zero,List.set_cons_succ,C.pl,C.one,List.all_cons,List.all_nil,Bool.and_true,List.take_succ_cons,List.take_zero,List.drop_zero];(first | refine hK1 _ ?_ | refine AD (hK1 _ ?_));clear hK1 K1) | ((first | refine Aa ?_ | refine Al ?_);refine hK _ ?_;clear hK K)))
 (refine Wy (Kf R hn hr) ?_;intro K1 hK1)
 rintro _ _ ⟨rfl,rfl⟩
 (refine Wz ?_;clear hK1 K1)
 by_cases g0:BE R=true
 rotate_left
 ·have g0':BE R=false:=by simpa using g0
  (refine Wu (an @g0' @Bool.not_false) ?_;(repeat clear hK K);repeat refine kq fun K hK=>?_)
  refine WB ?_
  (refine Wt ?_;(repeat clear hK K);repeat refine kq fun K hK=>?_)
  refine WF [] Tryz.results34 ?_
  rw [MN g0']
 (refine Wu (an @g0 @Bool.not_true) ?_;(repeat clear hK K);repeat refine kq fun K hK=>?_)
 refine WC ?_
 (refine Wu @A3 ?_;(repeat clear hK K);repeat refine kq fun K hK=>?_)
 refine A8 (fun k:Nat=>{ tm:=[(1,.a (.c (.p 0 0))),(10,.a (.c (.t 1 (Ah R)))),(11,.i R.length),(12,.i k)],hp:=[.r ⟨25,1,false,[.t 1 (Ah R)]⟩],n:=34,pin:=0 }) (fun k=>k<=R.length/\∀ i r,i<k->R[i]?=some r->SortA r) (fun k=>R.length - k) 0 ?_ ?_ ?_
 ·exact ⟨by omega,fun i _ hi=>by omega⟩
 ·exact WE
 rintro k ⟨hk,hc⟩ K hK
 by_cases hlt:k<R.length
 rotate_left
 ·have hl1:decide ((k:Int)<(R.length:Int))=false:=by simpa using hlt
  (refine Wu @hl1 ?_;(repeat clear hK K);repeat refine kq fun K hK=>?_)
  refine WC ?_
  (refine Wx ?_;repeat clear hK K)
  (refine Wt ?_;(repeat clear hK K);repeat refine kq fun K hK=>?_)
  refine WF [] Tryz.results34 ?_
  rw [Ke g0 (fun i r hi=>hc i r (by omega))]
 have hl1:decide ((k:Int)<(R.length:Int))=true:=by simpa using hlt
 have hgk:=gE1 hlt
 have hrk:=hr _ (gE6 hlt)
 (refine Wu @hl1 ?_;(repeat clear hK K);repeat refine kq fun K hK=>?_)
 refine WB ?_
 (refine Wu (an (Ag hgk) @A3) ?_;(repeat clear hK K);repeat refine kq fun K hK=>?_)
 refine A8 (fun j:Nat=>{ tm:=[(1,.a (.c (.p 0 0))),(10,.a (.c (.t 1 (Ah R)))),(11,.i R.length),(12,.i k),(4,.a (.c (.t 2 (Ao R[k])))),(5,.i (j+1:Nat))],hp:=[.r ⟨25,1,false,[.t 1 (Ah R)]⟩],n:=34,pin:=0 }) (fun j=>j<=R[k].length/\∀ i a b,i<j->R[k][i]?=some a->R[k][i+1]?=some b->WK a b=true) (fun j=>R[k].length - j) 0 ?_ ?_ ?_
 ·exact ⟨by omega,fun i _ _ hi=>by omega⟩
 ·exact WE
 rintro j ⟨hj,hj2⟩ K hK
 by_cases hltj:j+1<R[k].length
 rotate_left
 ·have hl2:decide (((j+1:Nat):Int)<(R[k].length:Int))=false:=by simp;omega
  (refine Wu (an @hl2 (an @A2 @Ak)) ?_;(repeat clear hK K);repeat refine kq fun K hK=>?_)
  refine WC ?_
  (refine Wx ?_;repeat clear hK K)
  (refine Wt ?_;(repeat clear hK K);repeat refine kq fun K hK=>?_)
  refine WD ?_
  refine hK _ (k+1) ⟨by omega,fun i r hi hir=>?_⟩ (by omega) ?_
  rotate_left
  ·exact WE
  by_cases e:i=k
  rotate_left
  ·exact hc i r (by omega) hir
  subst e;rw [hgk] at hir;cases hir
  exact Gd fun i a b ha hb=>hj2 i a b (by have:=(List.getElem?_eq_some_iff.1 hb).1;omega) ha hb
 have hl2:decide (((j+1:Nat):Int)<(R[k].length:Int))=true:=by simp;omega
 have hltj0:j<R[k].length:=by omega
 have hgj:=gE1 hltj0
 have hgj1:=gE1 hltj
 have haj:=AL hltj0
 have haj1:=AL hltj
 have e1:((j+1:Nat):Int) - 1=(j:Int):=by omega
 (refine Wu (an @hl2 (an @A2 @Ak)) ?_;(repeat clear hK K);repeat refine kq fun K hK=>?_)
 refine WB ?_
 (refine Wt ?_;(repeat clear hK K);repeat refine kq fun K hK=>?_)
 (refine Ac 9 [(0,0),(1,0),(2,0),(3,0),(4,1),(5,0),(6,0),(7,0),(8,1),(9,2),(10,0)] (by kernel_rfl) (by kernel_rfl) (by intro c st h;simp [Ae,AF,VT] at h) ?_)
 (refine Wq (an @e1 (an @A2 (an @A2 (an @Ak (an @haj @haj1))))) ?_;repeat clear hK K)
 (refine MF (Je R[k][j] R[k][j+1]) ?_;intro K1 hK1)
 rintro _ _ ⟨rfl,rfl⟩
 (refine Wz ?_;clear hK1 K1)
 cases hlt2:WK R[k][j] R[k][j+1] with
 | false=>
  (refine Wq (an @EY (an @hlt2 @Bool.not_false)) ?_;repeat clear hK K)
  refine WB ?_
  (refine Wt ?_;(repeat clear hK K);repeat refine kq fun K hK=>?_)
  refine WF [] Tryz.results34 ?_
  rw [Kd hgk hgj hgj1 hlt2]
 | true=>
  (refine Wq (an @EY (an @hlt2 @Bool.not_true)) ?_;repeat clear hK K)
  refine WC ?_
  (refine Wt ?_;(repeat clear hK K);repeat refine kq fun K hK=>?_)
  refine WD ?_
  refine hK _ (j+1) ⟨by omega,fun i a b hi ha hb=>?_⟩ (by omega) ?_
  ·by_cases e:i=j
   ·subst e;rw [hgj] at ha;rw [hgj1] at hb;cases ha;cases hb;exact hlt2
   exact hj2 i a b (by omega) ha hb
  have e2:(((j+1:Nat):Int)+1)=((j+1+1:Nat):Int):=by omega
  (refine BG ?_;simp only [Dg,go_sem,e2];try simp)
end Go.Proofs.YtjijjfkalheokaaGreatDoor
