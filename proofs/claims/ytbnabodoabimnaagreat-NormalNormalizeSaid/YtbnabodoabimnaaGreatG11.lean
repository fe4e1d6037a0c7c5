/- Lemmas. -/
import Derived.Test.YtbnabodoabimnaaGreatZk
import Derived.Test.YtbnabodoabimnaaGreatMF
import Derived.Test.YtbnabodoabimnaaGreatMfl
import Derived.Test.YtbnabodoabimnaaGreatShlf
namespace Go.Proofs.YtbnabodoabimnaaGreat
set_option linter.unusedVariables false
set_option linter.unusedSimpArgs false
open Go.RowKit
set_option maxRecDepth 100000
theorem K2 (a b:Ar):FC Tryz.prog 90 [.a (.g [.v (.int .i64 a.1),.v (.int .i64 a.2)]),.a (.g [.v (.int .i64 b.1),.v (.int .i64 b.2)])] [] (fun r o=>o=[]/\r=.b (Wb a b)):=by
 refine A7 Tryz.func90 rfl (by rw [Tryz.ntmps90];simp) ?_
 rw [Tryz.ntmps90]
 simp only [B4]
 by_cases h1:a.1<b.1
 ·have e1:decide (a.1<b.1)=true:=by simpa using h1
  (refine aj @e1 ?_;(repeat clear hK K);repeat refine kq fun K hK=>?_)
  ((try refine Ak ?_);(try simp only [Ad,Ay]);refine AB (A8 [] rfl rfl) ?_;(try simp only [Yn,go_sem]);((try refine Ak ?_);(try refine Aa ?_);(try simp only [Ad,Ay]);refine AN (by first | exact .inl rfl | exact .inr rfl) rfl ?_;simp only [Vm,Cq,Ck,Cx,Tryz.results90,go_sem,true_and,and_true,Wb,e1,Bool.true_or]))
 have e1:decide (a.1<b.1)=false:=by simpa using h1
 by_cases h2:a.1=b.1
 ·have e2:(a.1 == b.1)=true:=by simpa using h2
  (refine aj (an @e1 @e2) ?_;(repeat clear hK K);repeat refine kq fun K hK=>?_)
  ((try refine Ak ?_);(try simp only [Ad,Ay]);refine AB (A8 [] rfl rfl) ?_;(try simp only [Yn,go_sem]);((try refine Ak ?_);(try refine Aa ?_);(try simp only [Ad,Ay]);refine AN (by first | exact .inl rfl | exact .inr rfl) rfl ?_;simp only [Vm,Cq,Ck,Cx,Tryz.results90,go_sem,true_and,and_true,Wb,e1,e2,gA6,gAa]))
 have e2:(a.1 == b.1)=false:=by simpa using h2
 (refine aj (an @e1 @e2) ?_;(repeat clear hK K);repeat refine kq fun K hK=>?_)
 ((try refine Ak ?_);(try simp only [Ad,Ay]);refine AB (A8 [] rfl rfl) ?_;(try simp only [Yn,go_sem]);((try refine Ak ?_);(try refine Aa ?_);(try simp only [Ad,Ay]);refine AN (by first | exact .inl rfl | exact .inr rfl) rfl ?_;simp only [Vm,Cq,Ck,Cx,Tryz.results90,go_sem,true_and,and_true,Wb,e1,e2,gA6,Bool.false_and]))

theorem Tn:UD Tryz.prog 23 2:=Ui Tryz.underlying23 (by kernel_rfl) (by kernel_rfl) (by decide) (by decide) rfl rfl (by kernel_rfl) (by kernel_rfl)
theorem R4 (x y:Operand) (a b c d:Int):Gf Tryz.prog .eql 23 x y [.int .i64 a,.int .i64 b] [.int .i64 c,.int .i64 d] (a == c && b == d)=True:=by
 refine eq_true ?_
 have:=(Tn x y [.v (.int .i64 a),.v (.int .i64 b)] [.v (.int .i64 c),.v (.int .i64 d)] _ _ rfl rfl rfl rfl).1
 simpa [V6] using this
theorem FP {a b:Ar}:(a.1 == b.1 && a.2 == b.2)=decide (a=b):=by
 obtain ⟨a1,a2⟩:=a
 obtain ⟨b1,b2⟩:=b
 simp [Prod.ext_iff,Bool.beq_eq_decide_eq]
theorem R5 (x y:Operand) (a b:Ar):Gf Tryz.prog .eql 23 x y [.int .i64 a.1,.int .i64 a.2] [.int .i64 b.1,.int .i64 b.2] (decide (a=b))=True:=by
 rw [<- FP];exact R4 x y _ _ _ _
theorem Aq (n:Nat):n*2 / 2=n:=by omega
theorem IW (xs:List Ar) (x:Ar) (hn:xs.length<=100000000):FC Tryz.prog 51 [GX xs,.a (.g [.v (.int .i64 x.1),.v (.int .i64 x.2)])] [] (fun r o=>o=[]/\r=GX (E5 x xs)):=by
 refine A7 Tryz.func51 rfl (by rw [Tryz.ntmps51];simp) ?_
 rw [Tryz.ntmps51]
 simp only [B4,GX]
 (refine ai ?_;(repeat clear hK K);repeat refine kq fun K hK=>?_)
 refine Ab (fun k:Nat=>{ tm:=[(0,.a (.c (.t 2 (Aw xs)))),(3,.a (.c (.p 0 0))),(5,.i k)],hp:=[.r ⟨23,2,false,[.v (.int .i64 x.1),.v (.int .i64 x.2)]⟩],n:=48,pin:=0 }) (fun k=>k<=xs.length/\∀ i y,i<k->xs[i]?=some y->Wb y x=true) (fun k=>xs.length - k) 0 ?_ ?_ ?_
 ·exact ⟨by omega,by intro i y hi;omega⟩
 ·exact W5
 rintro k ⟨hk,he⟩ K hK
 have fin:(∀ z,xs[k]?=some z->Wb z x=false/\z ≠ x)->E5 x xs=xs.take k++[x]++xs.drop k:=by
  intro h1
  rw [Mw hk he h1];simp
 have hlen:(xs.take k++[x]++xs.drop k).length=k+1+(xs.length - k):=by simp;omega
 have hlen2:(xs.take k).length=k:=by simp;omega
 have hlen3:(xs.take k++[x]).length=k+1:=by simp;omega
 by_cases hlt:k<xs.length
 rotate_left
 ·have hl1:=Yq hlt
  (refine ai ?_;repeat refine kq fun K hK=>?_)
  refine Yr 10 [(0,0),(1,0),(2,0),(3,0),(4,0),(5,0),(6,0),(7,0),(8,1),(9,1),(10,2),(11,0)] ?_
  (refine VQ (an @hl1 (an @A3 @Aq)) ?_;repeat clear hK K)
  (refine ai ?_;repeat refine kq fun K hK=>?_)
  refine W3 ?_
  (refine VZ ?_;repeat clear hK K)
  (refine ai ?_;repeat refine kq fun K hK=>?_)
  refine Yr 11 [(0,0),(1,0),(2,0),(3,0),(4,0),(5,0),(6,0),(7,0),(8,1),(9,1),(10,0),(11,2)] ?_
  (refine VQ (an @hl1 (an @A3 @Aq)) ?_;repeat clear hK K)
  (refine ai ?_;repeat refine kq fun K hK=>?_)
  refine W3 ?_
  (refine aj (an @gBj.{0} (an @gBi.{0} (an @gBp.{0} (an @gBq.{0} (an @gAs.{0} (an @gAS.{0} (an @gAK.{0} (an @gAI.{0} (an @A3 (an @Aq (an @BH (an @EV (an @Cm (an @AD (an @Eu (an @B9 (an @D9 (an @EW (an (gBy hk) (an (gE7 (gBt hlen2)) (gE7 (gBt hlen3)))))))))))))))))))))) ?_;(repeat clear hK K);repeat refine kq fun K hK=>?_)
  ((try refine Ak ?_);(try simp only [Ad,Ay]);refine AB (B6 (r:=⟨23,2,true,AG (xs.take k++[x]++xs.drop k)⟩) 5 (Aw (xs.take k++[x]++xs.drop k)) rfl (DB _) (show 0<(2:Nat) by omega)) ?_;refine AB (A8 [] rfl rfl) ?_;simp only [ST.frz,A0.frz,AV.frz,C.frz,gBu,gBj,gBi,go_sem,A3,Aq,hlen,gBu,BH,gE7 (gBt hlen)];(try simp only [Yn,go_sem]);((try refine Ak ?_);(try refine Aa ?_);(try simp only [Ad,Ay]);refine AN (by first | exact .inl rfl | exact .inr rfl) rfl ?_;simp only [Vm,Cq,Ck,Cx,Tryz.results51,go_sem,true_and,and_true,A3,Aq,hlen,gBu,BH,gE7 (gBt hlen)]))
  rw [fin (fun z hz=>by rw [gAB (by omega)] at hz;cases hz)]
 have hl1:=Yp hlt
 have hk2:=AS hlt
 (refine ai ?_;repeat refine kq fun K hK=>?_)
 refine Yr 10 [(0,0),(1,0),(2,0),(3,0),(4,0),(5,0),(6,0),(7,0),(8,1),(9,1),(10,2),(11,0)] ?_
 (refine VQ (an @hl1 (an @hk2 (an @A3 (an @Aq (an @gAV.{0,0} (an @gAX.{0,0} (an @gBp.{0} (an @gBq.{0} @gAs.{0})))))))) ?_;repeat clear hK K)
 (refine Ue rfl rfl rfl (by simp only [go_sem] <;> rfl) rfl ?_;intro K1 hK1;refine (Av (ids:=[]) (K2 xs[k] x) rfl rfl (by simp only [go_sem]) (by kernel_rfl) (by (simp only [gAk,go_sem]) <;> rfl) ?_).stp)
 rintro _ _ ⟨rfl,rfl⟩
 (refine W1 ?_;clear hK1 K1)
 (refine VP ?_;repeat clear hK K)
 (refine ai ?_;(repeat clear hK K);repeat refine kq fun K hK=>?_)
 (refine Ah ?_;intro X Y hX hY;simp only [go_sem])
 refine ⟨fun h=>hX ?_,fun h=>hY ?_⟩
 ·clear hX hY X Y
  (refine ai ?_;(repeat clear hK K);repeat refine kq fun K hK=>?_)
  refine W4 ?_
  refine hK _ (k+1) ⟨by omega,fun i y hi hy=>?_⟩ (by omega) ?_
  rotate_left
  ·exact W5
  by_cases e:i=k
  ·subst e;rw [gE1 hlt] at hy;cases hy;exact h
  exact he i y (by omega) hy
 have hle:Wb xs[k] x=false:=h
 clear hX hY X Y
 (refine VZ ?_;repeat clear hK K)
 (refine ai ?_;repeat refine kq fun K hK=>?_)
 refine Yr 11 [(0,0),(1,0),(2,0),(3,0),(4,0),(5,0),(6,0),(7,0),(8,1),(9,1),(10,0),(11,2)] ?_
 (refine VQ (an @hl1 (an @hk2 (an @R5 (an @FP (an @true_and (an @A3 (an @Aq (an @gAV.{0,0} (an @gAX.{0,0} (an @gBp.{0} (an @gBq.{0} @gAs.{0}))))))))))) ?_;repeat clear hK K)
 (refine ai ?_;(repeat clear hK K);repeat refine kq fun K hK=>?_)
 (refine Ah ?_;intro X Y hX hY;simp only [go_sem])
 refine ⟨fun h=>hX ?_,fun h=>hY ?_⟩
 ·clear hX hY X Y
  (refine ai ?_;(repeat clear hK K);repeat refine kq fun K hK=>?_)
  refine Ak ?_
  simp only [Ad,Ay]
  refine W6 [] Tryz.results51 ?_
  rw [K0 he (by rw [gE1 hlt];simpa using h)]
 have hne:xs[k] ≠ x:=by simpa using h
 clear hX hY X Y
 (refine aj (an @gBj.{0} (an @gBi.{0} (an @gBp.{0} (an @gBq.{0} (an @gAs.{0} (an @gAS.{0} (an @gAK.{0} (an @gAI.{0} (an @A3 (an @Aq (an @BH (an @EV (an @Cm (an @AD (an @Eu (an @B9 (an @D9 (an @EW (an (gBy hk) (an (gE7 (gBt hlen2)) (gE7 (gBt hlen3)))))))))))))))))))))) ?_;(repeat clear hK K);repeat refine kq fun K hK=>?_)
 ((try refine Ak ?_);(try simp only [Ad,Ay]);refine AB (B6 (r:=⟨23,2,true,AG (xs.take k++[x]++xs.drop k)⟩) 5 (Aw (xs.take k++[x]++xs.drop k)) rfl (DB _) (show 0<(2:Nat) by omega)) ?_;refine AB (A8 [] rfl rfl) ?_;simp only [ST.frz,A0.frz,AV.frz,C.frz,gBu,gBj,gBi,go_sem,A3,Aq,hlen,gBu,BH,gE7 (gBt hlen)];(try simp only [Yn,go_sem]);((try refine Ak ?_);(try refine Aa ?_);(try simp only [Ad,Ay]);refine AN (by first | exact .inl rfl | exact .inr rfl) rfl ?_;simp only [Vm,Cq,Ck,Cx,Tryz.results51,go_sem,true_and,and_true,A3,Aq,hlen,gBu,BH,gE7 (gBt hlen)]))
 rw [fin (fun z hz=>by rw [gE1 hlt] at hz;cases hz;exact ⟨hle,hne⟩)]
theorem K3 (x:Int):FC Tryz.prog 160 [.i x] [] (fun r o=>o=[]/\r=.b false):=by
 refine A7 Tryz.func160 rfl (by rw [Tryz.ntmps160];simp) ?_
 rw [Tryz.ntmps160]
 simp only [B4]
 (repeat (first | (refine AA ?_;intro K hK) | refine Ai ?_ | refine Ag ?_ | (refine AX rfl rfl ?_;intro K1 hK1;simp only [go_sem,bne_self_eq_false];(first | refine hK1 _ ?_ | refine AE (hK1 _ ?_));clear hK1 K1) | ((first | refine Aa ?_ | refine Am ?_);refine hK _ ?_;clear hK K)))
 exact OQ Tryz.results160
def Ex (a b:Int):Int:=if a<b then -1 else if a > b then 1 else 0
theorem Mx (x y:Int):FC Tryz.prog 131 [.i x,.i y] [] (fun r o=>o=[]/\r=.i (Ex x y)):=by
 refine A7 Tryz.func131 rfl (by rw [Tryz.ntmps131];simp) ?_
 rw [Tryz.ntmps131]
 simp only [B4]
 (refine ai ?_;repeat refine kq fun K hK=>?_)
 refine Yt (K3 x) ?_
 (refine ai ?_;repeat refine kq fun K hK=>?_)
 refine Yt (K3 y) ?_
 (refine ai ?_;repeat refine kq fun K hK=>?_)
 (refine Ah ?_;intro X Y hX hY;simp only [go_sem])
 refine hY ?_;clear hX hY X Y
 (refine ai ?_;repeat refine kq fun K hK=>?_)
 (refine Ah ?_;intro X Y hX hY;simp only [go_sem])
 refine hY ?_;clear hX hY X Y
 (refine ai ?_;(repeat clear hK K);repeat refine kq fun K hK=>?_)
 (refine Ah ?_;intro X Y hX hY;simp only [go_sem])
 refine ⟨fun h=>hX ?_,fun h=>hY ?_⟩
 ·clear hX hY X Y
  (refine ai ?_;(repeat clear hK K);repeat refine kq fun K hK=>?_)
  refine W8 Tryz.results131 ?_
  have:x<y:=by simpa using h
  simp [Ex,this]
 clear hX hY X Y
 have h1:¬ x<y:=by simpa using h
 clear h
 (refine ai ?_;(repeat clear hK K);repeat refine kq fun K hK=>?_)
 (refine Ah ?_;intro X Y hX hY;simp only [go_sem])
 refine ⟨fun h=>hX ?_,fun h=>hY ?_⟩
 ·clear hX hY X Y
  (refine ai ?_;(repeat clear hK K);repeat refine kq fun K hK=>?_)
  refine W8 Tryz.results131 ?_
  have:y<x:=by simpa using h
  simp [Ex,this,h1]
 clear hX hY X Y
 (refine ai ?_;(repeat clear hK K);repeat refine kq fun K hK=>?_)
 refine W8 Tryz.results131 ?_
 have:¬ y<x:=by simpa using h
 simp [Ex,this,h1]
theorem Bm {α:Type} {xs:List α} {k:Nat} (h:k<xs.length):xs.drop k=xs[k] :: xs.drop (k+1):=gAp h
theorem Bw {P:Program} {ops:Array Oper} {l:List Oper} {st t:ST} {K:ST->Prop} (h:Le st t) (k:Vi P ops l t K):Vi P ops l st K:=fun M0 w0 a w Q hR hN=>k M0 w0 a w Q (h M0 w0 a w hR) hN
theorem R6 (a b:Int):Ex a b<0↔a<b:=by unfold Ex;split <;> (try split) <;> omega
theorem I3 (a b:Int):Ex a b=0↔a=b:=by unfold Ex;split <;> (try split) <;> omega
def SV (a b:Ar):Int:=if Ex a.1 b.1 ≠ 0 then Ex a.1 b.1 else Ex a.2 b.2
theorem My (a b:Int):(a<b/\Ex a b = -1)\/(a=b/\Ex a b=0)\/(b<a/\Ex a b=1):=by
 unfold Ex
 rcases Int.lt_trichotomy a b with h | h | h
 ·exact .inl ⟨h,by simp [h]⟩
 ·exact .inr (.inl ⟨h,by simp [h]⟩)
 exact .inr (.inr ⟨h,by rw [if_neg (by omega),if_pos h]⟩)
theorem R7 (a b:Ar):decide (SV a b<0)=Wb a b:=by
 rw [gA4,decide_eq_true_iff,DA]
 unfold SV
 rcases My a.1 b.1 with ⟨h,e⟩ | ⟨h,e⟩ | ⟨h,e⟩ <;> rw [e]
 ·simp;omega
 ·rcases My a.2 b.2 with ⟨h2,e2⟩ | ⟨h2,e2⟩ | ⟨h2,e2⟩ <;> rw [e2] <;> simp <;> omega
 simp;omega
theorem H2 (a b:Ar):decide (SV a b>=0)=!Wb a b:=by
 rw [<- R7,gA4,decide_eq_true_iff,gA7,gBL]
 omega
instance decSortA (l:List Ar):Decidable (SortA l):=inferInstanceAs (Decidable (List.Pairwise (fun a b=>Wb a b=true) l))
theorem I4 {xs:List Ar} (h:∀ i a b,xs[i]?=some a->xs[i+1]?=some b->Wb a b=true):SortA xs:=by
 unfold SortA
 induction xs with
 | nil=>exact .nil
 | cons a r ih=>
  have h2:=ih fun i x y hx hy=>h (i+1) x y (by simpa using hx) (by simpa using hy)
  rw [gBe]
  refine ⟨fun b hb=>?_,h2⟩
  cases r with
  | nil=>simp at hb
  | cons c q=>
   have h1:=h 0 a c rfl rfl
   rcases gB2.1 hb with rfl | hb
   ·exact h1
   exact I1 h1 ((gBe.1 h2).1 b hb)
theorem SortA.at {xs:List Ar} (h:SortA xs) {i j:Nat} {a b:Ar} (hij:i<j) (ha:xs[i]?=some a) (hb:xs[j]?=some b):Wb a b=true:=by
 have h1:=List.getElem?_eq_some_iff.1 ha
 have h2:=List.getElem?_eq_some_iff.1 hb
 have:=gBf.1 h i j h1.1 h2.1 hij
 rwa [h1.2,h2.2] at this
theorem Mz {xs:List Ar} {i:Nat} {a b:Ar} (ha:xs[i]?=some a) (hb:xs[i+1]?=some b) (h:Wb a b=false):¬ SortA xs:=fun hs=>by
 have:=hs.at (by omega) ha hb
 rw [h] at this;cases this
def R8 (x:Int):Prop:=2<=x/\x<=1025
instance decChanP (x:Int):Decidable (R8 x):=inferInstanceAs (Decidable (_/\_))
theorem DQ {xs:List Ar} {i:Nat} (h:i<xs.length):(Aw xs)[i*2]?=some (.v (.int .i64 xs[i].1)):=by
 have:=AS h
 have e:((Aw xs).drop (i*2))[0]?=some (.v (.int .i64 xs[i].1)):=by
  rw [<- List.getElem?_take_of_lt (show 0<2 by omega),this];rfl
 simpa using e
theorem Fq {xs:List Ar} {i:Nat} (h:i<xs.length):(Aw xs)[i*2+1]?=some (.v (.int .i64 xs[i].2)):=by
 have:=AS h
 have e:((Aw xs).drop (i*2))[1]?=some (.v (.int .i64 xs[i].2)):=by
  rw [<- List.getElem?_take_of_lt (show 1<2 by omega),this];rfl
 simpa using e
def UW (o:List Ar):Prop:=SortA o/\(∀ a∈o,R8 a.1/\R8 a.2/\a.1 ≠ a.2)/\∀ x∈o,∀ y∈o,y.1=x.2->(x.1,y.2)∈o
instance decOrdP (o:List Ar):Decidable (UW o):=inferInstanceAs (Decidable (_/\_/\_))
def Ci (R:List (List Ar)):Nat:=(R.map List.length).sum
theorem MA (R:List (List Ar)) (r:List Ar):Ci (R++[r])=Ci R+r.length:=by simp [Ci]
theorem Da {R:List (List Ar)} {k:Nat} (h:k<R.length):Ci (R.take (k+1))=Ci (R.take k)+R[k].length:=by
 rw [gE8 h,MA]
theorem IX (R:List (List Ar)) (k:Nat):Ci (R.take k)<=Ci R:=by
 have:Ci R=Ci (R.take k)+Ci (R.drop k):=by
  unfold Ci
  rw [<- List.sum_append,<- gAT,List.take_append_drop]
 omega
def UX:Nat:=16384
def UI:Nat:=262144
def Ul (R:List (List Ar)):Prop:=1<=R.length/\R.length<=UX/\Ci R<=UI/\∀ r∈R,∀ a∈r,0<=a.1/\a.1<=1025/\0<=a.2/\a.2<(R.length:Int)
instance decLooP (R:List (List Ar)):Decidable (Ul R):=inferInstanceAs (Decidable (_/\_/\_/\_))
def BZ (R:List (List Ar)):Bool:=decide (Ul R)
def C7 (R:List (List Ar)):Bool:=decide (Ul R/\∀ r∈R,SortA r)
theorem MB {R:List (List Ar)} (h:BZ R=false):C7 R=false:=by
 rw [BZ,gBL] at h
 rw [C7,gBL]
 exact fun h2=>h h2.1
attribute [local go_sem] lga C.pl C.one
def Gc (x:Int) (l:List Int):Int:=l.foldl (fun a b=>if b<a then b else a) x
theorem R9 (l:List Int):∀ x:Int,Gc x l<=x/\∀ y∈l,Gc x l<=y:=by
 induction l with
 | nil=>intro x;exact ⟨gAc _,by simp⟩
 | cons a r ih=>
  intro x
  have e:Gc x (a :: r)=Gc (if a<x then a else x) r:=rfl
  obtain ⟨h1,h2⟩:=ih (if a<x then a else x)
  rw [e]
  have h3:(if a<x then a else x)<=x/\(if a<x then a else x)<=a:=by split <;> omega
  refine ⟨Int.le_trans h1 h3.1,fun y hy=>?_⟩
  rcases gB2.1 hy with rfl | h
  ·exact Int.le_trans h1 h3.2
  exact h2 y h
theorem OT (l:List Int):∀ x:Int,Gc x l=x\/Gc x l∈l:=by
 induction l with
 | nil=>intro x;exact .inl rfl
 | cons a r ih=>
  intro x
  have e:Gc x (a :: r)=Gc (if a<x then a else x) r:=rfl
  rw [e]
  rcases ih (if a<x then a else x) with h | h
  rotate_left
  ·exact .inr (gEf _ h)
  rw [h];split
  ·exact .inr (gB3)
  exact .inl rfl
theorem H3 {O:List Int} {off k:Nat} (h:off+k<O.length):(O.drop off).take (k+1)=(O.drop off).take k++[O[off+k]]:=by
 have h1:k<(O.drop off).length:=by simp;omega
 rw [gE8 h1,List.getElem_drop]
theorem MC (x:Int) (l:List Int) (y:Int):Gc x (l++[y])=if y<Gc x l then y else Gc x l:=by unfold Gc;rw [gAv];rfl

theorem Ra (O:List Int) (off n:Nat) (hn:0<n) (hO:off+n<=O.length) (hb:off+n<=140737488355328):FC Tryz.prog 161 [.a (.c (.w 0 off n 1))] [Be O] (fun r o=>o=[Be O]/\r=.i (Gc O[off] ((O.drop off).take n))):=by
 refine A7 Tryz.func161 rfl (by rw [Tryz.ntmps161];simp) ?_
 rw [Tryz.ntmps161]
 simp only [B4,Be]
 have d0:decide ((n:Int)<1)=false:=by simp;omega
 have h0:off<O.length:=by omega
 have g0:(A9 O)[off]?=some (.v (.int .i64 O[off])):=At (gE1 h0)
 (refine aj @d0 ?_;repeat refine kq fun K hK=>?_)
 refine W3 ?_
 (refine aj (an @g0 (an @gAe @gBr)) ?_;(repeat clear hK K);repeat refine kq fun K hK=>?_)
 refine Ab (fun k:Nat=>{ tm:=[(0,.a (.c (.w 0 off n 1))),(3,.i (Gc O[off] ((O.drop off).take k))),(4,.i k)],hp:=[.r ⟨3,1,true,A9 O⟩],n:=25,pin:=1 }) (fun k=>1<=k/\k<=n) (fun k=>n - k) 1 ?_ ?_ ?_
 ·omega
 ·have e:(O.drop off).take 1=[O[off]]:=by
   have:=H3 (O:=O) (off:=off) (k:=0) (by omega)
   simpa using this
  have e2:Gc O[off] [O[off]]=O[off]:=by simp [Gc]
  (refine Bh ?_;simp only [CS,go_sem,e,e2];try simp)
 rintro k ⟨hk1,hk⟩ K hK
 by_cases hlt:k<n
 rotate_left
 ·have d1:=Yq hlt
  have hke:k=n:=by omega
  subst hke
  (refine aj @d1 ?_;repeat refine kq fun K hK=>?_)
  refine W3 ?_
  (refine VZ ?_;repeat clear hK K)
  (refine ai ?_;(repeat clear hK K);repeat refine kq fun K hK=>?_)
  exact Oj [0] Tryz.results161 @A5
 have d1:=Yp hlt
 have g1:(A9 O)[off+k]?=some (.v (.int .i64 O[off+k])):=At (gE1 (by omega))
 (refine aj @d1 ?_;repeat refine kq fun K hK=>?_)
 refine W2 ?_
 (refine aj @g1 ?_;(repeat clear hK K);repeat refine kq fun K hK=>?_)
 refine W4 ?_
 refine hK _ (k+1) ⟨by omega,by omega⟩ (by omega) ?_
 have e:=H3 (O:=O) (off:=off) (k:=k) (by omega)
 (refine Bh ?_;simp only [CS,go_sem,e,MC];try simp)

def Eg (W:List Int) (l:List Int) (x:Int):List Int:=l.foldl (fun w u=>w.set u.toNat x) W
theorem FQ (l:List Int) (x:Int):∀ W,(Eg W l x).length=W.length:=by
 induction l with
 | nil=>intro W;rfl
 | cons a r ih=>intro W;show (Eg (W.set a.toNat x) r x).length=_;rw [ih,gAQ]
theorem Lo (W l:List Int) (x y:Int):Eg W (l++[y]) x=(Eg W l x).set y.toNat x:=by unfold Eg;rw [gAv];rfl
theorem MD (l:List Int) (x:Int):∀ (W:List Int) (i:Nat),i<W.length->(∀ a∈l,0<=a)->(Eg W l x)[i]?=if (i:Int)∈l then some x else W[i]?:=by
 induction l with
 | nil=>intro W i _ _;simp [Eg]
 | cons a r ih=>
  intro W i hi h0
  show (Eg (W.set a.toNat x) r x)[i]?=_
  rw [ih _ _ (by rw [gAQ];exact hi) (fun b hb=>h0 b (gEf _ hb))]
  have ha:=h0 a gB3
  by_cases h1:(i:Int)∈r
  ·rw [if_pos h1,if_pos (gEf _ h1)]
  rw [if_neg h1]
  by_cases h2:(i:Int)=a
  rotate_left
  ·rw [if_neg (by rw [gB2];rintro (h | h) <;> contradiction),gE5 (by omega)]
  rw [if_pos (by rw [h2];exact gB3)]
  have:a.toNat=i:=by omega
  rw [this,gEc hi]
theorem Bj (L:List Int) (i:Nat) (x:Int):(A9 L).set i (.v (.int .i64 x))=A9 (L.set i x):=by simp [A9,gAY]

theorem OU (O W:List Int) (m k:Nat) (s:Int) (hk:k<m) (hm:m<=O.length) (hs:O[k]?=some s) (hu:∀ j,k<j->j<m->O[j]? ≠ some s) (hW:∀ j x,k<=j->j<m->O[j]?=some x->0<=x/\x<W.length) (hb:m<=140737488355328) (hb2:W.length<=140737488355328):
  FC Tryz.prog 133 [.a (.c (.s 0 m)),.i s,.a (.c (.s 1 W.length))] [Be O,Be W] (fun r o=>o=[Be O,Be (Eg W ((O.drop k).take (m - k)) (Gc s ((O.drop k).take (m - k))))]/\r=.a (.c (.s 0 k))):=by
 refine A7 Tryz.func133 rfl (by rw [Tryz.ntmps133];simp) ?_
 rw [Tryz.ntmps133]
 simp only [B4,Be]
 have e0:(m:Int) - 1=((m - 1:Nat):Int):=by omega
 (refine aj (an @A4 @e0) ?_;(repeat clear hK K);repeat refine kq fun K hK=>?_)
 refine Ab (fun j:Nat=>{ tm:=[(0,.a (.c (.s 0 m))),(1,.i s),(2,.a (.c (.s 1 W.length))),(7,.i j)],hp:=[.r ⟨3,1,true,A9 O⟩,.r ⟨3,1,true,A9 W⟩],n:=42,pin:=2 }) (fun j=>k<=j/\j<m) (fun j=>j) (m - 1) ?_ ?_ ?_
 ·omega
 ·exact W5
 rintro j ⟨hj1,hj2⟩ K hK
 have g1:(A9 O)[j]?=some (.v (.int .i64 O[j])):=At (gE1 (by omega))
 by_cases hjk:k<j
 ·have d1:(O[j] != s)=true:=by
   have:=hu j hjk hj2
   rw [gE1 (by omega)] at this
   simpa using this
  have e1:(j:Int) - 1=((j - 1:Nat):Int):=by omega
  (refine aj (an @g1 (an @d1 @A4)) ?_;repeat refine kq fun K hK=>?_)
  refine W2 ?_
  (refine aj @e1 ?_;(repeat clear hK K);repeat refine kq fun K hK=>?_)
  refine W4 ?_
  refine hK _ (j - 1) ⟨by omega,by omega⟩ (by omega) ?_
  exact W5
 have hje:j=k:=by omega
 subst hje
 have hOs:O[j]=s:=by rw [gE1 (by omega)] at hs;cases hs;rfl
 have d1:(O[j] != s)=false:=by simp [hOs]
 (refine aj (an @g1 (an @d1 @A4)) ?_;repeat refine kq fun K hK=>?_)
 refine W3 ?_
 (refine VZ ?_;repeat clear hK K)
 (refine aj @A4 ?_;(repeat clear hK K);repeat refine kq fun K hK=>?_)
 (refine Aj rfl ?_;intro K1 hK1;refine Ax (ids:=[]) [0] (Ra O j (m - j) (by omega) (by omega) (by omega)) rfl rfl (by simp only [go_sem]) (by first | assumption | kernel_rfl) rfl rfl (by (simp only [gAT,gAk,go_sem]) <;> rfl) (by (simp only [Vk,Be,A5,go_sem]) <;> rfl) ?_ ?_)
 ·rintro _ _ ⟨rfl,rfl⟩;rfl
 rintro _ _ ⟨rfl,rfl⟩
 (simp only [Ap,AC,Be,AL,Ys,go_sem];refine hK1 _ ?_;clear hK1 K1)
 generalize hM:Gc O[j] ((O.drop j).take (m - j))=M
 (refine aj @A4 ?_;(repeat clear hK K);repeat refine kq fun K hK=>?_)
 refine Ab (fun i:Nat=>{ tm:=[(0,.a (.c (.s 0 m))),(2,.a (.c (.s 1 W.length))),(7,.i j),(8,.i M),(28,.a (.c (.w 0 j (m - j) 1))),(29,.i ((m - j:Nat):Int)),(30,.i i)],hp:=[.r ⟨3,1,true,A9 O⟩,.r ⟨3,1,true,A9 (Eg W ((O.drop j).take i) M)⟩],n:=42,pin:=2 }) (fun i=>i<=m - j) (fun i=>m - j - i) 0 ?_ ?_ ?_
 ·omega
 ·(refine Bh ?_;simp only [CS,go_sem,Eg,gAx];try simp)
 rintro i hi K hK
 by_cases hlt:i<m - j
 rotate_left
 ·have d2:decide ((i:Int)<((m - j:Nat):Int))=false:=by simp;omega
  have hie:i=m - j:=by omega
  subst hie
  (refine aj @d2 ?_;repeat refine kq fun K hK=>?_)
  refine W3 ?_
  (refine VZ ?_;repeat clear hK K)
  (refine aj @A4 ?_;(repeat clear hK K);repeat refine kq fun K hK=>?_)
  refine W7 [0,1] Tryz.results133 @A5 ?_
  rw [<- hOs,hM]
 have d2:decide ((i:Int)<((m - j:Nat):Int))=true:=by simp;omega
 have g2:(A9 O)[j+i]?=some (.v (.int .i64 O[j+i])):=At (gE1 (by omega))
 have hx:=hW (j+i) _ (by omega) (by omega) (gE1 (by omega))
 have e:=H3 (O:=O) (off:=j) (k:=i) (by omega)
 have hl:=FQ ((O.drop j).take i) M W
 (refine aj @d2 ?_;repeat refine kq fun K hK=>?_)
 refine W2 ?_
 (refine Zk (an @g2 (an @A4 (an @hl @Bj))) ?_;(repeat clear hK K);repeat refine kq fun K hK=>?_)
 refine W4 ?_
 refine hK _ (i+1) (by omega) (by omega) ?_
 simp only [e,Lo]
 exact W5

theorem E6 {α:Type} (p:α->Bool) (l:List α) (k:Nat) (h1:∀ j x,j<k->l[j]?=some x->p x=true) (h2:∀ x,l[k]?=some x->p x=false):l.takeWhile p=l.take k:=by
 induction l generalizing k with
 | nil=>simp
 | cons a r ih=>
  cases k with
  | zero=>have:=h2 a rfl;simp [gBl,this]
  | succ k=>
   have:=h1 0 a (by omega) rfl
   rw [gBl,if_pos this,gBp,ih k (fun j x hj hx=>h1 (j+1) x (by omega) hx) (fun x hx=>h2 x hx)]
def BP (t:Bool) (r:List Ar):List Ar:=if t then r.takeWhile fun a=>a.1 == 0 else r
theorem H4 (R:List (List Ar)) (s:Nat) (t:Bool) (hs:s<R.length) (hn:R.length<=140737488355328) (hr:R[s].length<=140737488355328):FC Tryz.prog 132 [Ba R,.i s,.b t] [] (fun r o=>o=[]/\r=.a (.c (.t 2 (Aw (BP t R[s]))))):=by
 refine A7 Tryz.func132 rfl (by rw [Tryz.ntmps132];simp) ?_
 rw [Tryz.ntmps132]
 simp only [B4,Ba]
 have hg:=gE1 hs
 cases t with
 | false=>
  (refine aj (an @A6 (an (Ao hg) @gA8)) ?_;repeat refine kq fun K hK=>?_)
  refine W2 ?_
  (refine ai ?_;(repeat clear hK K);repeat refine kq fun K hK=>?_)
  refine W6 [] Tryz.results132 ?_
  simp [BP]
 | true=>
  (refine aj (an @A6 (an (Ao hg) @gA9)) ?_;repeat refine kq fun K hK=>?_)
  refine W3 ?_
  (refine ai ?_;(repeat clear hK K);repeat refine kq fun K hK=>?_)
  refine Ab (fun k:Nat=>{ tm:=[(7,.a (.c (.t 2 (Aw R[s])))),(8,.i k)],hp:=[.r ⟨27,1,false,[.t 1 (AK R)]⟩],n:=34,pin:=0 }) (fun k=>k<=R[s].length/\∀ j x,j<k->R[s][j]?=some x->(x.1 == 0)=true) (fun k=>R[s].length - k) 0 ?_ ?_ ?_
  ·exact ⟨by omega,fun j x h=>by omega⟩
  ·exact W5
  rintro k ⟨hk,he⟩ K hK
  by_cases hlt:k<R[s].length
  rotate_left
  ·have d1:decide ((k:Int)<(R[s].length:Int))=false:=by simpa using hlt
   (refine aj (an @d1 (an @A3 @Aq)) ?_;repeat refine kq fun K hK=>?_)
   refine W3 ?_
   (refine VZ ?_;repeat clear hK K)
   have ek:=E6 (fun a:Ar=>a.1 == 0) R[s] k he (fun x hx=>by
    first
     | (rw [gE1 hlt] at hx;cases hx;exact q1)
     | (rw [gAB (by omega)] at hx;cases hx))
   (refine aj (an @A3 (an @Aq @BH)) ?_;(repeat clear hK K);repeat refine kq fun K hK=>?_)
   refine W6 [] Tryz.results132 ?_
   simp only [BP,if_pos,ek]
  have d1:decide ((k:Int)<(R[s].length:Int))=true:=by simpa using hlt
  have ha0:=DQ hlt
  cases q1:(R[s][k].1 == 0) with
  | true=>
   (refine aj (an @d1 (an @q1 (an @ha0 (an @A3 @Aq)))) ?_;repeat refine kq fun K hK=>?_)
   refine W2 ?_
   (refine ai ?_;(repeat clear hK K);repeat refine kq fun K hK=>?_)
   refine W4 ?_
   refine hK _ (k+1) ⟨by omega,fun j x hj hx=>?_⟩ (by omega) ?_
   rotate_left
   ·exact W5
   rcases gBx j k with h | h
   ·exact he j x h hx
   have:j=k:=by omega
   subst this
   rw [gE1 hlt] at hx;cases hx;exact q1
  | false=>
   (refine aj (an @d1 (an @q1 (an @ha0 (an @A3 @Aq)))) ?_;repeat refine kq fun K hK=>?_)
   refine W3 ?_
   (refine VZ ?_;repeat clear hK K)
   have ek:=E6 (fun a:Ar=>a.1 == 0) R[s] k he (fun x hx=>by
    first
     | (rw [gE1 hlt] at hx;cases hx;exact q1)
     | (rw [gAB (by omega)] at hx;cases hx))
   (refine aj (an @A3 (an @Aq @BH)) ?_;(repeat clear hK K);repeat refine kq fun K hK=>?_)
   refine W6 [] Tryz.results132 ?_
   simp only [BP,if_pos,ek]
open Go.RowKit Go.Shelf
theorem Tp {P:Program} {f:FuncId} {args:List AV} {vals:List Value} {a b:Value} (ha:∀ (g:Gh) (w:World) (vs:List Value),HQ g [] w args vs->vs=vals)
  (h:∀ w,Calls P f vals.toArray w fun e w'=>e=.returned (.tuple #[a,b])/\Fp (fun _=>False) w w'):FC P f args [] (fun x o=>o=[]/\x=.tup [.c (.v a),.c (.v b)]):=by
 intro g w vs hr hargs
 obtain rfl:=ha g w vs hargs
 refine (h w).mono ?_
 rintro e w' ⟨rfl,hf⟩
 refine ⟨_,_,[],g,rfl,⟨rfl,rfl⟩,?_,⟨gBu _,Ext.refl _ _⟩,fun ℓ hl=>?_,⟨[a,b],rfl,rfl,fun i x hx=>?_⟩,hf.mono (fun _ _ h=>h.elim)⟩
 ·exact ⟨fun q hq=>gBw (hr.ml q hq) hf.size,fun ℓ hl=>hr.md ℓ hl,hr.inj,fun id r e=>by simp at e,fun id kv e=>by simp at e,hr.gl.keep hf.size (fun k hk _=>hf.block k hk (fun h=>h)) (fun _ _ h=>h)⟩
 ·cases ℓ with
  | ob i=>rcases hl with ⟨r,e,_⟩ | ⟨kv,e⟩ <;> simp at e
  | cl i j=>obtain ⟨r,k,cs,e,_⟩:=hl;simp at e
 match i,hx with
 | 0,hx=>simp at hx;subst hx;exact ⟨a,rfl,rfl⟩
 | 1,hx=>simp at hx;subst hx;exact ⟨b,rfl,rfl⟩
 | i+2,hx=>simp at hx
theorem Rb (n:Nat) (hn:n<=1000000):FC Tryz.prog 120 [.a (.c (.v (.int .u64 1))),.a (.c (.v (.int .u64 n)))] [] (fun x o=>o=[]/\x=.tup [.c (.v (.int .u64 0)),.c (.v (.int .u64 n))]):=by
 refine Tp (vals:=[.int .u64 1,.int .u64 n]) (fun g w vs hv=>?_) fun w=>?_
 ·obtain ⟨h0,h1⟩:=hv
  obtain ⟨v,e1,e2⟩:=h1 0 _ rfl
  obtain ⟨u,e3,e4⟩:=h1 1 _ rfl
  match vs,h0 with
  | [x,y],_=>simp at e1 e3;subst e1;subst e3;rw [show x=_ from e2,show y=_ from e4]
 have hmul:=Any.bits_Mul Tryz.bitsMul 1 n (by omega) (by omega) w
 rw [Nat.one_mul,Nat.div_eq_of_lt (by omega:n<18446744073709551616),Nat.mod_eq_of_lt (by omega:n<18446744073709551616)] at hmul
 exact hmul.mono fun e w' h=>⟨h.1,by rw [h.2];exact Fp.refl _ _⟩

def Iz (x:Int) (j m:Nat):List Int:=List.replicate j x++List.replicate m 0
theorem OV (x:Int) (j m:Nat):(Iz x j m).length=j+m:=by simp [Iz]
theorem K4 (x:Int) (l:Nat):∀ j m,l<=m->De (A9 (Iz x j m)) j (A9 (List.replicate l x))=A9 (Iz x (j+l) (m - l)):=by
 induction l with
 | zero=>intro j m _;rfl
 | succ l ih=>
  intro j m h
  rw [gBg]
  show De ((A9 (Iz x j m)).set j (.v (.int .i64 x))) (j+1) (A9 (List.replicate l x))=_
  have e:(A9 (Iz x j m)).set j (.v (.int .i64 x))=A9 (Iz x (j+1) (m - 1)):=by
   rw [Bj,Iz,gBh _ _ (by simp),Iz]
   congr 1
   obtain ⟨m',rfl⟩:∃ m',m=m'+1:=⟨m - 1,by omega⟩
   rw [gAP,gBC,gBg,gBj,Nat.add_sub_cancel,List.replicate_succ' (n:=j),gAj]
   rfl
  rw [e,ih (j+1) (m - 1) (by omega),show j+1+l=j+(l+1) from by omega,show m - 1 - l=m - (l+1) from by omega]
theorem FR (x:Int) (j m l:Nat) (h:l<=j):(A9 (Iz x j m)).take l=A9 (List.replicate l x):=by
 rw [BF,Iz,gBm (by simpa using h),List.take_replicate,gBy h]

theorem FS (x:Int) (n:Nat) (h1:1<=n) (hn:n<=1000000):FC Tryz.prog 83 [.a (.c (.s 0 1)),.i n] [Be [x]] (fun r o=>o=[Be [x],Be (List.replicate n x)]/\r=.a (.c (.s 1 n))):=by
 refine A7 Tryz.func83 rfl (by rw [Tryz.ntmps83];simp) ?_
 rw [Tryz.ntmps83]
 simp only [B4,Be]
 have d0:decide ((n:Int)<0)=false:=by simp
 have w1:IntKind.u64.wrap (1:Int)=1:=IntWalk.u64_in _ (by omega)
 have w2:IntKind.u64.wrap (n:Int)=n:=IntWalk.u64_in _ (by omega)
 have w3:IntKind.i64.wrap (n:Int)=n:=IntWalk.i64_in _ (by omega)
 have u1:=Tryz.underlying3
 have u2:=Tryz.underlying137
 have d3:decide ((n:Int) > 9223372036854775807)=false:=by simp;omega
 have d4:decide ((0:Int) > 0)=false:=by simp
 (refine aj @d0 ?_;repeat refine kq fun K hK=>?_)
 refine W3 ?_
 (refine aj (an @w1 (an @w2 (an @u1 (an @u2 @Int.natCast_one)))) ?_;repeat refine kq fun K hK=>?_)
 refine Yt (Rb n hn) ?_
 (refine aj (an @d3 @d4) ?_;repeat refine kq fun K hK=>?_)
 refine W3 ?_
 (refine aj (an @w3 (an @u1 @u2)) ?_;(repeat clear hK K);repeat refine kq fun K hK=>?_)
 (refine Aj rfl ?_;intro K1 hK1;refine JQ (l:=1) rfl rfl (by simp only [go_sem] <;> rfl) rfl (by simp only [go_sem] <;> rfl) (by simp only [go_sem,Q8] <;> rfl) (by simp only [go_sem,Q8] <;> rfl) (by simp only [go_sem] <;> rfl) (by simp only [go_sem] <;> rfl) (by omega) (by omega) (by simp only [go_sem] <;> omega) rfl ?_ ?_ ?_ ?_)
 ·rfl
 ·rfl
 ·simp only [go_sem,gAP];omega
 have f0:De (List.replicate n (C.v (.int .i64 0))) 0 (List.take 1 (A9 [x]))=A9 (Iz x 1 (n - 1)):=by
  have h:=K4 x 1 0 n h1
  rw [gBD] at h
  rw [<- h]
  have e1:A9 (Iz x 0 n)=List.replicate n (C.v (.int .i64 0)):=by simp [Iz,A9]
  rw [e1];rfl
 simp only [go_sem,f0]
 refine hK1 _ ?_;clear hK1 K1
 (refine ai ?_;(repeat clear hK K);repeat refine kq fun K hK=>?_)
 refine Ab (fun j:Nat=>{ tm:=[(7,.a (.c (.s 1 n))),(8,.i j)],hp:=[.r ⟨3,1,true,A9 [x]⟩,.r ⟨3,1,true,A9 (Iz x j (n - j))⟩],n:=48,pin:=1 }) (fun j=>1<=j/\j<=n) (fun j=>n - j) 1 ?_ ?_ ?_
 ·omega
 ·exact W5
 rintro j ⟨hj1,hj⟩ K hK
 have hfl:=OV x j (n - j)
 by_cases hlt:j<n
 rotate_left
 ·have d1:=Yq hlt
  have hje:j=n:=by omega
  subst hje
  (refine aj @d1 ?_;repeat refine kq fun K hK=>?_)
  refine W3 ?_
  (refine VZ ?_;repeat clear hK K)
  (refine ai ?_;(repeat clear hK K);repeat refine kq fun K hK=>?_)
  refine W7 [0,1] Tryz.results83 @A5 ?_
  rw [gBC,Iz,List.replicate_zero,gAk]
 have d1:=Yp hlt
 (refine aj @d1 ?_;repeat refine kq fun K hK=>?_)
 refine W2 ?_
 (refine ai ?_;repeat refine kq fun K hK=>?_)
 refine Yz [] [(0,0,0),(1,0,0),(2,0,0),(3,0,0),(4,0,0),(5,0,0),(6,0,0),(7,2,0),(8,0,0),(9,0,0)] ?_
 (refine VT ?_;repeat clear hK K)
 (refine VI rfl rfl rfl ?_;intro K1 hK1;refine JQ (l:=min j (n - j)) rfl rfl (by simp only [go_sem] <;> rfl) rfl (by simp only [go_sem] <;> rfl) (by simp only [go_sem,Q8] <;> rfl) (by simp only [go_sem,Q8] <;> rfl) (by simp only [go_sem] <;> rfl) (by simp only [go_sem] <;> rfl) rfl (by omega) (by simp only [go_sem] <;> omega) rfl ?_ ?_ ?_ ?_)
 ·simp only [go_sem,FR x j (n - j) _ (Nat.min_le_left _ _),CL]
 ·simp only [go_sem,FR x j (n - j) _ (Nat.min_le_left _ _),A4,gAP]
 ·simp only [go_sem,A4,hfl];omega
 simp only [go_sem,FR x j (n - j) _ (Nat.min_le_left _ _),K4 x _ j (n - j) (Nat.min_le_right _ _)]
 refine hK1 _ ?_;clear hK1 K1
 (refine VT ?_;repeat clear hK K)
 refine OM ⟨by simp,by simp,?_⟩
 simp only [Ad,Ay]
 refine hK _ (j+min j (n - j)) ⟨by omega,by omega⟩ (by omega) ?_
 have e:n - (j+min j (n - j))=n - j - min j (n - j):=by omega
 simp only [e]
 (refine Bh ?_;simp only [CS,go_sem,Int.natCast_add];try simp)
attribute [local go_sem] gBj gBi gAV gAX gBp gBq gAs gAr C.pl C.one gAf gAh gA3
def Wc:List Int->Int
 | []=>0
 | x :: r=>if x ≠ 0 then x else Wc r
theorem OW (xs:List Int) (hn:xs.length<=100000000):FC Tryz.prog 130 [Ap xs] [] (fun r o=>o=[]/\r=.i (Wc xs)):=by
 refine A7 Tryz.func130 rfl (by rw [Tryz.ntmps130];simp) ?_
 rw [Tryz.ntmps130]
 simp only [B4,Ap]
 (refine aj @A2 ?_;(repeat clear hK K);repeat refine kq fun K hK=>?_)
 refine Ab (fun k:Nat=>{ tm:=[(3,.i 0),(6,.a (.c (.t 1 (Ac xs)))),(7,.i xs.length),(8,.i k)],hp:=[],n:=18,pin:=0 }) (fun k=>k<=xs.length/\Wc xs=Wc (xs.drop k)) (fun k=>xs.length - k) 0 ?_ ?_ ?_
 ·exact ⟨by omega,rfl⟩
 ·exact W5
 rintro k ⟨hk,he⟩ K hK
 (refine ai ?_;(repeat clear hK K);repeat refine kq fun K hK=>?_)
 (refine Ah ?_;intro X Y hX hY;simp only [go_sem])
 refine ⟨fun h=>hX ?_,fun h=>hY ?_⟩
 rotate_left
 ·clear hX hY X Y
  have hge:k=xs.length:=by simp at h;omega
  (refine VZ ?_;repeat clear hK K)
  (refine ai ?_;(repeat clear hK K);repeat refine kq fun K hK=>?_)
  refine W8 Tryz.results130 ?_
  have hd:xs.drop k=[]:=gAq (by omega)
  rw [he,hd];try rfl
 have hlt:k<xs.length:=by simpa using h
 rw [Bm hlt] at he
 clear hX hY X Y h
 (refine aj (an @A2 (Al (gE1 hlt))) ?_;(repeat clear hK K);repeat refine kq fun K hK=>?_)
 (refine Ah ?_;intro X Y hX hY;simp only [go_sem])
 refine ⟨fun h=>hX ?_,fun h=>hY ?_⟩
 ·clear hX hY X Y
  (refine ai ?_;(repeat clear hK K);repeat refine kq fun K hK=>?_)
  refine W8 Tryz.results130 ?_
  have:xs[k] ≠ 0:=by simpa using h
  rw [he,Wc,if_pos this]
 clear hX hY X Y
 (refine ai ?_;(repeat clear hK K);repeat refine kq fun K hK=>?_)
 refine W4 ?_
 refine hK _ (k+1) ⟨by omega,?_⟩ (by omega) ?_
 ·have:xs[k]=0:=by simpa using h
  rw [he,Wc,if_neg (by simp [this])]
 exact W5
theorem Re (a b:Ar):Wc [Ex a.1 b.1,Ex a.2 b.2]=SV a b:=by
 simp only [Wc,SV]
 split
 ·rfl
 split
 ·rfl
 rename_i h;simpa using Eq.symm (by simpa using h)
theorem Rf (a b:Ar):FC Tryz.prog 104 [.a (.g [.v (.int .i64 a.1),.v (.int .i64 a.2)]),.a (.g [.v (.int .i64 b.1),.v (.int .i64 b.2)])] [] (fun r o=>o=[]/\r=.i (SV a b)):=by
 refine A7 Tryz.func104 rfl (by rw [Tryz.ntmps104];simp) ?_
 rw [Tryz.ntmps104]
 simp only [B4]
 (refine aj (an @gBj.{0} @gBi.{0}) ?_;repeat refine kq fun K hK=>?_)
 refine Yz [] [(0,0,0),(2,0,0),(5,0,0),(7,0,0),(1,1,4),(3,1,4),(6,1,9),(8,1,9),(4,2,0),(9,2,0),(10,2,0),(11,2,0),(12,2,0)] ?_
 (refine VT ?_;repeat clear hK K)
 (refine VH rfl rfl ?_;intro K1 hK1;refine Bv ?_;refine xv [] (Mx a.1 b.1) ?_ ?_)
 ·rintro _ _ ⟨rfl,rfl⟩ i o hi hl;simp at hl
 rintro _ _ ⟨rfl,rfl⟩
 (refine W1 ?_;clear hK1 K1)
 (refine VT ?_;repeat clear hK K)
 (refine VH rfl rfl ?_;intro K1 hK1;refine Bv ?_;refine xv [] (Mx a.2 b.2) ?_ ?_)
 ·rintro _ _ ⟨rfl,rfl⟩ i o hi hl;simp at hl
 rintro _ _ ⟨rfl,rfl⟩
 (refine W1 ?_;clear hK1 K1)
 (refine VT ?_;repeat clear hK K)
 (refine VI rfl rfl rfl ?_;intro K1 hK1;refine Bc rfl ?_;simp only [go_sem,gBj,gBi];(first | refine hK1 _ ?_ | refine AE (hK1 _ ?_));clear hK1 K1)
 (refine UT (B6 (r:=⟨3,1,true,A9 [Ex a.1 b.1,Ex a.2 b.2]⟩) 2 (Ac [Ex a.1 b.1,Ex a.2 b.2]) rfl (ES _) (show 0<(1:Nat) by omega)) ?_;simp only [ST.frz,A0.frz,AV.frz,C.frz,gBu,gBj,gBi,go_sem,A2,Bf,gAJ,gAO,gBp,gBq])
 (refine VT ?_;repeat clear hK K)
 (refine VH rfl rfl ?_;intro K1 hK1;refine Bv ?_;refine BL (ids:=[]) [] (OW [Ex a.1 b.1,Ex a.2 b.2] (by simp)) rfl rfl (by simp only [go_sem]) (by kernel_rfl) rfl rfl rfl (by (simp only [gAT,gAk,go_sem]) <;> rfl) (by (simp only [Vk,Ap,go_sem]) <;> rfl) ?_ ?_)
 ·rintro _ _ ⟨rfl,rfl⟩ i o hi hl;simp at hl
 rintro _ _ ⟨rfl,rfl⟩
 (refine W1 ?_;clear hK1 K1)
 (refine VI rfl rfl rfl ?_;intro K1 hK1;refine Bc rfl ?_;simp only [go_sem];(first | refine hK1 _ ?_ | refine AE (hK1 _ ?_));clear hK1 K1)
 (refine VT ?_;repeat clear hK K)
 refine W6 [] Tryz.results104 ?_
 rw [Re]
def Wd (n:Nat) (a:Ar):Prop:=0<=a.1/\a.1<=1025/\0<=a.2/\a.2<(n:Int)
theorem K5 {R:List (List Ar)} (h1:1<=R.length) (h2:R.length<=16384) (h3:Ci (R.take R.length)<=262144) (h4:∀ i r,i<R.length->R[i]?=some r->∀ a∈r,Wd R.length a):BZ R=true:=by
 rw [gBn] at h3
 rw [BZ,decide_eq_true_iff]
 refine ⟨h1,h2,h3,fun r hr a ha=>?_⟩
 obtain ⟨i,hi⟩:=gB6.1 hr
 exact h4 i r (List.getElem?_eq_some_iff.1 hi).1 hi a ha
theorem K6 {R:List (List Ar)} {k:Nat} (h:262144<Ci (R.take k)):BZ R=false:=by
 rw [BZ,gBL]
 intro h2
 have:=IX R k
 have:=h2.2.2.1
 unfold UI at this
 omega
theorem K7 {R:List (List Ar)} {i j:Nat} {r:List Ar} {a:Ar} (hr:R[i]?=some r) (ha:r[j]?=some a) (h:¬ Wd R.length a):BZ R=false:=by
 rw [BZ,gBL]
 exact fun h2=>h (h2.2.2.2 r (gE9 hr) a (gE9 ha))
theorem K8 {R:List (List Ar)} (h:¬ 1<=R.length):BZ R=false:=by
 rw [BZ,gBL];exact fun h2=>h h2.1
theorem I5 {R:List (List Ar)} (h:¬ R.length<=16384):BZ R=false:=by
 rw [BZ,gBL];exact fun h2=>h h2.2.1
theorem K9 {R:List (List Ar)} {i j:Nat} {r:List Ar} {a b:Ar} (hr:R[i]?=some r) (ha:r[j]?=some a) (hb:r[j+1]?=some b) (h:Wb a b=false):C7 R=false:=by
 rw [C7,gBL]
 exact fun h2=>Mz ha hb h (h2.2 r (gE9 hr))
theorem Ka {R:List (List Ar)} (h:BZ R=true) (h2:∀ i r,i<R.length->R[i]?=some r->SortA r):C7 R=true:=by
 rw [BZ,decide_eq_true_iff] at h
 rw [C7,decide_eq_true_iff]
 refine ⟨h,fun r hr=>?_⟩
 obtain ⟨i,hi⟩:=gB6.1 hr
 exact h2 i r (List.getElem?_eq_some_iff.1 hi).1 hi


set_option maxHeartbeats 1000000 in
theorem OX (R:List (List Ar)) (hn:R.length<=140737488355328) (hr:∀ r∈R,r.length<=140737488355328):FC Tryz.prog 102 [Ba R] [] (fun r o=>o=[]/\r=.b (BZ R)):=by
 refine A7 Tryz.func102 rfl (by rw [Tryz.ntmps102];simp) ?_
 rw [Tryz.ntmps102]
 simp only [B4,Ba]
 by_cases g1:(R.length:Int)<1
 ·have e1:decide ((R.length:Int)<1)=true:=by simpa using g1
  (refine aj (an @e1 (an @A6 (an @gBj.{0} @gBi.{0}))) ?_;repeat refine kq fun K hK=>?_)
  refine W2 ?_
  (refine ai ?_;(repeat clear hK K);repeat refine kq fun K hK=>?_)
  refine W6 [] Tryz.results102 ?_
  rw [K8 (by omega)]
 have e1:decide ((R.length:Int)<1)=false:=by simpa using g1
 by_cases g2:(R.length:Int) > 16384
 ·have e2:decide ((R.length:Int) > 16384)=true:=by simpa using g2
  (refine aj (an @e1 (an @e2 (an @A6 (an @gBj.{0} @gBi.{0})))) ?_;repeat refine kq fun K hK=>?_)
  refine W2 ?_
  (refine ai ?_;(repeat clear hK K);repeat refine kq fun K hK=>?_)
  refine W6 [] Tryz.results102 ?_
  rw [I5 (by omega)]
 have e2:decide ((R.length:Int) > 16384)=false:=by simpa using g2
 (refine aj (an @e1 (an @e2 (an @A6 (an @gBj.{0} @gBi.{0})))) ?_;repeat refine kq fun K hK=>?_)
 refine W3 ?_
 (refine aj @A6 ?_;(repeat clear hK K);repeat refine kq fun K hK=>?_)
 refine Ab (fun k:Nat=>{ tm:=[(1,.a (.c (.p 0 0))),(3,.i R.length),(4,.i (262144 - (Ci (R.take k):Int))),(19,.a (.c (.t 1 (AK R)))),(20,.i R.length),(21,.i k)],hp:=[.r ⟨27,1,false,[.t 1 (AK R)]⟩],n:=60,pin:=0 }) (fun k=>k<=R.length/\Ci (R.take k)<=262144/\∀ i r,i<k->R[i]?=some r->∀ a∈r,Wd R.length a) (fun k=>R.length - k) 0 ?_ ?_ ?_
 ·exact ⟨by omega,by simp [Ci],fun i _ hi=>by omega⟩
 ·(refine Bh ?_;simp only [CS,go_sem,gBq,Ci,gAX,List.sum_nil,Int.natCast_zero,Int.sub_zero];try simp)
 rintro k ⟨hk,hto,hc⟩ K hK
 by_cases hlt:k<R.length
 rotate_left
 ·have hl1:=Yq hlt
  have hke:k=R.length:=by omega
  (refine aj @hl1 ?_;repeat refine kq fun K hK=>?_)
  refine W3 ?_
  (refine VZ ?_;repeat clear hK K)
  (refine ai ?_;(repeat clear hK K);repeat refine kq fun K hK=>?_)
  refine W6 [] Tryz.results102 ?_
  rw [K5 (by omega) (by omega) (by rw [<- hke];exact hto) (by rw [<- hke];intro i r hi;rw [hke];exact hc i r hi)]
 have hl1:=Yp hlt
 have hgk:=gE1 hlt
 have hrk:=hr _ (gE6 hlt)
 have htk:=Da hlt
 generalize hW:Ci (R.take k)=W at *
 (refine aj @hl1 ?_;repeat refine kq fun K hK=>?_)
 refine W2 ?_
 (refine aj (an (Ao hgk) (an @A6 (an @A3 @Aq))) ?_;(repeat clear hK K);repeat refine kq fun K hK=>?_)
 (refine Ah ?_;intro X Y hX hY;simp only [go_sem])
 refine ⟨fun h=>hX ?_,fun h=>hY ?_⟩
 ·have hbig:262144<Ci (R.take (k+1)):=by simp at h;omega
  clear hX hY X Y
  (refine ai ?_;(repeat clear hK K);repeat refine kq fun K hK=>?_)
  refine W6 [] Tryz.results102 ?_
  rw [K6 hbig]
 have hsm:Ci (R.take (k+1))<=262144:=by simp at h;omega
 have e3:(262144 - (W:Int) - (R[k].length:Int))=262144 - (Ci (R.take (k+1)):Int):=by omega
 clear hX hY X Y
 (refine aj (an @A3 (an @Aq @e3)) ?_;(repeat clear hK K);repeat refine kq fun K hK=>?_)
 refine Ab (fun j:Nat=>{ tm:=[(1,.a (.c (.p 0 0))),(3,.i R.length),(4,.i (262144 - (Ci (R.take (k+1)):Int))),(19,.a (.c (.t 1 (AK R)))),(20,.i R.length),(21,.i k),(33,.a (.c (.t 2 (Aw R[k])))),(34,.i R[k].length),(35,.i j)],hp:=[.r ⟨27,1,false,[.t 1 (AK R)]⟩],n:=60,pin:=0 }) (fun j=>j<=R[k].length/\∀ i a,i<j->R[k][i]?=some a->Wd R.length a) (fun j=>R[k].length - j) 0 ?_ ?_ ?_
 ·exact ⟨by omega,fun i _ hi=>by omega⟩
 ·exact W5
 rintro j ⟨hj,hj2⟩ K hK
 by_cases hltj:j<R[k].length
 rotate_left
 ·have hl2:decide ((j:Int)<(R[k].length:Int))=false:=by simpa using hltj
  have hje:j=R[k].length:=by omega
  (refine aj @hl2 ?_;repeat refine kq fun K hK=>?_)
  refine W3 ?_
  (refine VZ ?_;repeat clear hK K)
  (refine ai ?_;(repeat clear hK K);repeat refine kq fun K hK=>?_)
  refine W4 ?_
  refine hK _ (k+1) ⟨by omega,hsm,fun i r hi hir a ha=>?_⟩ (by omega) ?_
  rotate_left
  ·exact W5
  by_cases e:i=k
  rotate_left
  ·exact hc i r (by omega) hir a ha
  subst e;rw [hgk] at hir;cases hir
  obtain ⟨q,hq⟩:=gB6.1 ha
  exact hj2 q a (by rw [hje];exact (List.getElem?_eq_some_iff.1 hq).1) hq
 have hl2:decide ((j:Int)<(R[k].length:Int))=true:=by simpa using hltj
 have hgj:=gE1 hltj
 have haj:=AS hltj
 (refine aj @hl2 ?_;(repeat clear hK K);repeat refine kq fun K hK=>?_)
 refine W2 ?_
 have bad:¬ Wd R.length R[k][j]->BZ R=false:=fun h=>K7 hgk hgj h
 by_cases c1:R[k][j].1<0
 ·have d1:decide (R[k][j].1<0)=true:=by simpa using c1
  (refine aj (an @d1 (an @A3 (an @Aq @haj))) ?_;repeat refine kq fun K hK=>?_)
  refine W2 ?_
  (refine ai ?_;(repeat clear hK K);repeat refine kq fun K hK=>?_)
  refine W6 [] Tryz.results102 ?_
  rw [bad (fun h=>by have:=h.1;omega)]
 have d1:decide (R[k][j].1<0)=false:=by simpa using c1
 by_cases c2:R[k][j].1 > 1025
 ·have d2:decide (R[k][j].1 > 1025)=true:=by simpa using c2
  (refine aj (an @d1 (an @d2 (an @A3 (an @Aq @haj)))) ?_;repeat refine kq fun K hK=>?_)
  refine W2 ?_
  (refine ai ?_;(repeat clear hK K);repeat refine kq fun K hK=>?_)
  refine W6 [] Tryz.results102 ?_
  rw [bad (fun h=>by have:=h.2.1;omega)]
 have d2:decide (R[k][j].1 > 1025)=false:=by simpa using c2
 by_cases c3:R[k][j].2<0
 ·have d3:decide (R[k][j].2<0)=true:=by simpa using c3
  (refine aj (an @d1 (an @d2 (an @d3 (an @A3 (an @Aq @haj))))) ?_;repeat refine kq fun K hK=>?_)
  refine W2 ?_
  (refine ai ?_;(repeat clear hK K);repeat refine kq fun K hK=>?_)
  refine W6 [] Tryz.results102 ?_
  rw [bad (fun h=>by have:=h.2.2.1;omega)]
 have d3:decide (R[k][j].2<0)=false:=by simpa using c3
 by_cases c4:R[k][j].2>=(R.length:Int)
 ·have d4:decide (R[k][j].2>=(R.length:Int))=true:=by simpa using c4
  (refine aj (an @d1 (an @d2 (an @d3 (an @d4 (an @A3 (an @Aq @haj)))))) ?_;repeat refine kq fun K hK=>?_)
  refine W2 ?_
  (refine ai ?_;(repeat clear hK K);repeat refine kq fun K hK=>?_)
  refine W6 [] Tryz.results102 ?_
  rw [bad (fun h=>by have:=h.2.2.2;omega)]
 have d4:decide (R[k][j].2>=(R.length:Int))=false:=by simpa using c4
 have hck:Wd R.length R[k][j]:=⟨by omega,by omega,by omega,by omega⟩
 (refine aj (an @d1 (an @d2 (an @d3 (an @d4 (an @A3 (an @Aq @haj)))))) ?_;repeat refine kq fun K hK=>?_)
 refine W3 ?_
 (refine ai ?_;(repeat clear hK K);repeat refine kq fun K hK=>?_)
 refine W4 ?_
 refine hK _ (j+1) ⟨by omega,fun i a hi ha=>?_⟩ (by omega) ?_
 rotate_left
 ·refine Le.trans (A8 [0] rfl rfl) ?_
  (try simp only [Yn,go_sem])
  exact W5
 by_cases e:i=j
 ·subst e;rw [hgj] at ha;cases ha;exact hck
 exact hj2 i a (by omega) ha

set_option maxHeartbeats 1000000 in
theorem ME (R:List (List Ar)) (hn:R.length<=140737488355328) (hr:∀ r∈R,r.length<=140737488355328):FC Tryz.prog 91 [Ba R] [] (fun r o=>o=[]/\r=.b (BZ R)):=by
 refine A7 Tryz.func91 rfl (by rw [Tryz.ntmps91];simp) ?_
 rw [Tryz.ntmps91]
 simp only [B4,Ba]
 by_cases g1:(R.length:Int)<1
 ·have e1:decide ((R.length:Int)<1)=true:=by simpa using g1
  (refine aj (an @e1 (an @A6 (an @gBj.{0} @gBi.{0}))) ?_;repeat refine kq fun K hK=>?_)
  refine W2 ?_
  (refine ai ?_;(repeat clear hK K);repeat refine kq fun K hK=>?_)
  refine W6 [] Tryz.results91 ?_
  rw [K8 (by omega)]
 have e1:decide ((R.length:Int)<1)=false:=by simpa using g1
 by_cases g2:(R.length:Int) > 16384
 ·have e2:decide ((R.length:Int) > 16384)=true:=by simpa using g2
  (refine aj (an @e1 (an @e2 (an @A6 (an @gBj.{0} @gBi.{0})))) ?_;repeat refine kq fun K hK=>?_)
  refine W2 ?_
  (refine ai ?_;(repeat clear hK K);repeat refine kq fun K hK=>?_)
  refine W6 [] Tryz.results91 ?_
  rw [I5 (by omega)]
 have e2:decide ((R.length:Int) > 16384)=false:=by simpa using g2
 (refine aj (an @e1 (an @e2 (an @A6 (an @gBj.{0} @gBi.{0})))) ?_;repeat refine kq fun K hK=>?_)
 refine W3 ?_
 (refine aj @A6 ?_;(repeat clear hK K);repeat refine kq fun K hK=>?_)
 refine Ab (fun k:Nat=>{ tm:=[(1,.a (.c (.p 0 0))),(3,.i R.length),(4,.i (Ci (R.take k):Int)),(5,.i k)],hp:=[.r ⟨27,1,false,[.t 1 (AK R)]⟩],n:=69,pin:=0 }) (fun k=>k<=R.length/\Ci (R.take k)<=262144/\∀ i r,i<k->R[i]?=some r->∀ a∈r,Wd R.length a) (fun k=>R.length - k) 0 ?_ ?_ ?_
 ·exact ⟨by omega,by simp [Ci],fun i _ hi=>by omega⟩
 ·(refine Bh ?_;simp only [CS,go_sem,gBq,Ci,gAX,List.sum_nil,Int.natCast_zero];try simp)
 rintro k ⟨hk,hto,hc⟩ K hK
 by_cases hlt:k<R.length
 rotate_left
 ·have hl1:=Yq hlt
  have hke:k=R.length:=by omega
  (refine aj @hl1 ?_;repeat refine kq fun K hK=>?_)
  refine W3 ?_
  (refine VZ ?_;repeat clear hK K)
  (refine ai ?_;(repeat clear hK K);repeat refine kq fun K hK=>?_)
  refine W6 [] Tryz.results91 ?_
  rw [K5 (by omega) (by omega) (by rw [<- hke];exact hto) (by rw [<- hke];intro i r hi;rw [hke];exact hc i r hi)]
 have hl1:=Yp hlt
 have hgk:=gE1 hlt
 have hrk:=hr _ (gE6 hlt)
 have htk:=Da hlt
 generalize hW:Ci (R.take k)=W at *
 have e3:((W:Int)+(R[k].length:Int))=(Ci (R.take (k+1)):Int):=by omega
 (refine aj @hl1 ?_;repeat refine kq fun K hK=>?_)
 refine W2 ?_
 (refine aj (an (Ao hgk) (an @A6 (an @A3 (an @Aq @e3)))) ?_;(repeat clear hK K);repeat refine kq fun K hK=>?_)
 (refine Ah ?_;intro X Y hX hY;simp only [go_sem])
 refine ⟨fun h=>hX ?_,fun h=>hY ?_⟩
 ·have hbig:262144<Ci (R.take (k+1)):=by simp at h;omega
  clear hX hY X Y
  (refine ai ?_;(repeat clear hK K);repeat refine kq fun K hK=>?_)
  refine W6 [] Tryz.results91 ?_
  rw [K6 hbig]
 have hsm:Ci (R.take (k+1))<=262144:=by simp at h;omega
 clear hX hY X Y
 (refine ai ?_;(repeat clear hK K);repeat refine kq fun K hK=>?_)
 refine Ab (fun j:Nat=>{ tm:=[(1,.a (.c (.p 0 0))),(3,.i R.length),(4,.i (Ci (R.take (k+1)):Int)),(5,.i k),(6,.i j)],hp:=[.r ⟨27,1,false,[.t 1 (AK R)]⟩],n:=69,pin:=0 }) (fun j=>j<=R[k].length/\∀ i a,i<j->R[k][i]?=some a->Wd R.length a) (fun j=>R[k].length - j) 0 ?_ ?_ ?_
 ·exact ⟨by omega,fun i _ hi=>by omega⟩
 ·exact W5
 rintro j ⟨hj,hj2⟩ K hK
 by_cases hltj:j<R[k].length
 rotate_left
 ·have hl2:decide ((j:Int)<(R[k].length:Int))=false:=by simpa using hltj
  have hje:j=R[k].length:=by omega
  (refine aj (an @hl2 (an (Ao hgk) (an @A6 (an @A3 @Aq)))) ?_;repeat refine kq fun K hK=>?_)
  refine W3 ?_
  (refine VZ ?_;repeat clear hK K)
  (refine ai ?_;(repeat clear hK K);repeat refine kq fun K hK=>?_)
  refine W4 ?_
  refine hK _ (k+1) ⟨by omega,hsm,fun i r hi hir a ha=>?_⟩ (by omega) ?_
  rotate_left
  ·exact W5
  by_cases e:i=k
  rotate_left
  ·exact hc i r (by omega) hir a ha
  subst e;rw [hgk] at hir;cases hir
  obtain ⟨q,hq⟩:=gB6.1 ha
  exact hj2 q a (by rw [hje];exact (List.getElem?_eq_some_iff.1 hq).1) hq
 have hl2:decide ((j:Int)<(R[k].length:Int))=true:=by simpa using hltj
 have hgj:=gE1 hltj
 have haj:=AS hltj
 (refine aj (an @hl2 (an (Ao hgk) (an @A6 (an @A3 @Aq)))) ?_;(repeat clear hK K);repeat refine kq fun K hK=>?_)
 refine W2 ?_
 have bad:¬ Wd R.length R[k][j]->BZ R=false:=fun h=>K7 hgk hgj h
 by_cases c1:R[k][j].1<0
 ·have d1:decide (R[k][j].1<0)=true:=by simpa using c1
  (refine aj (an @d1 (an (Ao hgk) (an @A6 (an @A3 (an @Aq @haj))))) ?_;repeat refine kq fun K hK=>?_)
  refine W2 ?_
  (refine ai ?_;(repeat clear hK K);repeat refine kq fun K hK=>?_)
  refine W6 [] Tryz.results91 ?_
  rw [bad (fun h=>by have:=h.1;omega)]
 have d1:decide (R[k][j].1<0)=false:=by simpa using c1
 by_cases c2:R[k][j].1 > 1025
 ·have d2:decide (R[k][j].1 > 1025)=true:=by simpa using c2
  (refine aj (an @d1 (an @d2 (an (Ao hgk) (an @A6 (an @A3 (an @Aq @haj)))))) ?_;repeat refine kq fun K hK=>?_)
  refine W2 ?_
  (refine ai ?_;(repeat clear hK K);repeat refine kq fun K hK=>?_)
  refine W6 [] Tryz.results91 ?_
  rw [bad (fun h=>by have:=h.2.1;omega)]
 have d2:decide (R[k][j].1 > 1025)=false:=by simpa using c2
 by_cases c3:R[k][j].2<0
 ·have d3:decide (R[k][j].2<0)=true:=by simpa using c3
  (refine aj (an @d1 (an @d2 (an @d3 (an (Ao hgk) (an @A6 (an @A3 (an @Aq @haj))))))) ?_;repeat refine kq fun K hK=>?_)
  refine W2 ?_
  (refine ai ?_;(repeat clear hK K);repeat refine kq fun K hK=>?_)
  refine W6 [] Tryz.results91 ?_
  rw [bad (fun h=>by have:=h.2.2.1;omega)]
 have d3:decide (R[k][j].2<0)=false:=by simpa using c3
 by_cases c4:R[k][j].2>=(R.length:Int)
 ·have d4:decide (R[k][j].2>=(R.length:Int))=true:=by simpa using c4
  (refine aj (an @d1 (an @d2 (an @d3 (an @d4 (an (Ao hgk) (an @A6 (an @A3 (an @Aq @haj)))))))) ?_;repeat refine kq fun K hK=>?_)
  refine W2 ?_
  (refine ai ?_;(repeat clear hK K);repeat refine kq fun K hK=>?_)
  refine W6 [] Tryz.results91 ?_
  rw [bad (fun h=>by have:=h.2.2.2;omega)]
 have d4:decide (R[k][j].2>=(R.length:Int))=false:=by simpa using c4
 have hck:Wd R.length R[k][j]:=⟨by omega,by omega,by omega,by omega⟩
 (refine aj (an @d1 (an @d2 (an @d3 (an @d4 (an (Ao hgk) (an @A6 (an @A3 (an @Aq @haj)))))))) ?_;repeat refine kq fun K hK=>?_)
 refine W3 ?_
 (refine ai ?_;(repeat clear hK K);repeat refine kq fun K hK=>?_)
 refine W4 ?_
 refine hK _ (j+1) ⟨by omega,fun i a hi ha=>?_⟩ (by omega) ?_
 rotate_left
 ·refine Le.trans (A8 [0] rfl rfl) ?_
  (try simp only [Yn,go_sem])
  exact W5
 by_cases e:i=j
 ·subst e;rw [hgj] at ha;cases ha;exact hck
 exact hj2 i a (by omega) ha

set_option maxHeartbeats 1000000 in
theorem H5 (R:List (List Ar)) (hn:R.length<=140737488355328) (hr:∀ r∈R,r.length<=140737488355328):FC Tryz.prog 76 [Ba R] [] (fun r o=>o=[]/\r=.b (C7 R)):=by
 refine A7 Tryz.func76 rfl (by rw [Tryz.ntmps76];simp) ?_
 rw [Tryz.ntmps76]
 simp only [B4,Ba]
 (repeat (first | (refine AA ?_;intro K hK) | refine Ai ?_ | refine Ag ?_ | (refine AX rfl rfl ?_;intro K1 hK1;simp only [go_sem,gBj,gBi,C.pl,C.one,gAf,gAh,gA3,gBp,gBq,gAs];(first | refine hK1 _ ?_ | refine AE (hK1 _ ?_));clear hK1 K1) | ((first | refine Aa ?_ | refine Am ?_);refine hK _ ?_;clear hK K)))
 refine Yt (OX R hn hr) ?_
 by_cases g0:BZ R=true
 rotate_left
 ·have g0':BZ R=false:=by simpa using g0
  (refine aj (an @g0' @gA8) ?_;repeat refine kq fun K hK=>?_)
  refine W2 ?_
  (refine ai ?_;(repeat clear hK K);repeat refine kq fun K hK=>?_)
  refine W6 [] Tryz.results76 ?_
  rw [MB g0']
 (refine aj (an @g0 @gA9) ?_;repeat refine kq fun K hK=>?_)
 refine W3 ?_
 (refine aj @A6 ?_;(repeat clear hK K);repeat refine kq fun K hK=>?_)
 refine Ab (fun k:Nat=>{ tm:=[(1,.a (.c (.p 0 0))),(10,.a (.c (.t 1 (AK R)))),(11,.i R.length),(12,.i k)],hp:=[.r ⟨27,1,false,[.t 1 (AK R)]⟩],n:=34,pin:=0 }) (fun k=>k<=R.length/\∀ i r,i<k->R[i]?=some r->SortA r) (fun k=>R.length - k) 0 ?_ ?_ ?_
 ·exact ⟨by omega,fun i _ hi=>by omega⟩
 ·exact W5
 rintro k ⟨hk,hc⟩ K hK
 by_cases hlt:k<R.length
 rotate_left
 ·have hl1:=Yq hlt
  (refine aj @hl1 ?_;repeat refine kq fun K hK=>?_)
  refine W3 ?_
  (refine VZ ?_;repeat clear hK K)
  (refine ai ?_;(repeat clear hK K);repeat refine kq fun K hK=>?_)
  refine W6 [] Tryz.results76 ?_
  rw [Ka g0 (fun i r hi=>hc i r (by omega))]
 have hl1:=Yp hlt
 have hgk:=gE1 hlt
 have hrk:=hr _ (gE6 hlt)
 (refine aj @hl1 ?_;repeat refine kq fun K hK=>?_)
 refine W2 ?_
 (refine aj (an (Ao hgk) @A6) ?_;(repeat clear hK K);repeat refine kq fun K hK=>?_)
 refine Ab (fun j:Nat=>{ tm:=[(1,.a (.c (.p 0 0))),(10,.a (.c (.t 1 (AK R)))),(11,.i R.length),(12,.i k),(4,.a (.c (.t 2 (Aw R[k])))),(5,.i (j+1:Nat))],hp:=[.r ⟨27,1,false,[.t 1 (AK R)]⟩],n:=34,pin:=0 }) (fun j=>j<=R[k].length/\∀ i a b,i<j->R[k][i]?=some a->R[k][i+1]?=some b->Wb a b=true) (fun j=>R[k].length - j) 0 ?_ ?_ ?_
 ·exact ⟨by omega,fun i _ _ hi=>by omega⟩
 ·exact W5
 rintro j ⟨hj,hj2⟩ K hK
 by_cases hltj:j+1<R[k].length
 rotate_left
 ·have hl2:decide (((j+1:Nat):Int)<(R[k].length:Int))=false:=by simp;omega
  (refine aj (an @hl2 (an @A3 @Aq)) ?_;repeat refine kq fun K hK=>?_)
  refine W3 ?_
  (refine VZ ?_;repeat clear hK K)
  (refine ai ?_;(repeat clear hK K);repeat refine kq fun K hK=>?_)
  refine W4 ?_
  refine hK _ (k+1) ⟨by omega,fun i r hi hir=>?_⟩ (by omega) ?_
  rotate_left
  ·exact W5
  by_cases e:i=k
  rotate_left
  ·exact hc i r (by omega) hir
  subst e;rw [hgk] at hir;cases hir
  exact I4 fun i a b ha hb=>hj2 i a b (by have:=(List.getElem?_eq_some_iff.1 hb).1;omega) ha hb
 have hl2:decide (((j+1:Nat):Int)<(R[k].length:Int))=true:=by simp;omega
 have hltj0:j<R[k].length:=by omega
 have hgj:=gE1 hltj0
 have hgj1:=gE1 hltj
 have haj:=AS hltj0
 have haj1:=AS hltj
 have e1:((j+1:Nat):Int) - 1=(j:Int):=by omega
 (refine aj (an @hl2 (an @A3 @Aq)) ?_;repeat refine kq fun K hK=>?_)
 refine W2 ?_
 (refine ai ?_;repeat refine kq fun K hK=>?_)
 refine Yr 9 [(0,0),(1,0),(2,0),(3,0),(4,1),(5,0),(6,0),(7,0),(8,1),(9,2),(10,0)] ?_
 (refine VS (an @e1 (an @A3 (an @A3 (an @Aq (an @haj @haj1))))) ?_;repeat clear hK K)
 (refine Qa (Rf R[k][j] R[k][j+1]) ?_;intro K1 hK1)
 rintro _ _ ⟨rfl,rfl⟩
 (refine W1 ?_;clear hK1 K1)
 cases hlt2:Wb R[k][j] R[k][j+1] with
 | false=>
  (refine VS (an @H2 (an @hlt2 @gA8)) ?_;repeat clear hK K)
  refine W2 ?_
  (refine ai ?_;(repeat clear hK K);repeat refine kq fun K hK=>?_)
  refine W6 [] Tryz.results76 ?_
  rw [K9 hgk hgj hgj1 hlt2]
 | true=>
  (refine VS (an @H2 (an @hlt2 @gA9)) ?_;repeat clear hK K)
  refine W3 ?_
  (refine ai ?_;(repeat clear hK K);repeat refine kq fun K hK=>?_)
  refine W4 ?_
  refine hK _ (j+1) ⟨by omega,fun i a b hi ha hb=>?_⟩ (by omega) ?_
  ·by_cases e:i=j
   ·subst e;rw [hgj] at ha;rw [hgj1] at hb;cases ha;cases hb;exact hlt2
   exact hj2 i a b (by omega) ha hb
  have e2:(((j+1:Nat):Int)+1)=((j+1+1:Nat):Int):=by omega
  (refine Bh ?_;simp only [CS,go_sem,e2];try simp)
set_option maxHeartbeats 1000000 in
theorem Db (R:List (List Ar)) (hn:R.length<=140737488355328) (hr:∀ r∈R,r.length<=140737488355328):FC Tryz.prog 54 [Ba R] [] (fun r o=>o=[]/\r=.b (C7 R)):=by
 refine A7 Tryz.func54 rfl (by rw [Tryz.ntmps54];simp) ?_
 rw [Tryz.ntmps54]
 simp only [B4,Ba]
 (repeat (first | (refine AA ?_;intro K hK) | refine Ai ?_ | refine Ag ?_ | (refine AX rfl rfl ?_;intro K1 hK1;simp only [go_sem,gBj,gBi,C.pl,C.one,gAf,gAh,gA3,gBp,gBq,gAs];(first | refine hK1 _ ?_ | refine AE (hK1 _ ?_));clear hK1 K1) | ((first | refine Aa ?_ | refine Am ?_);refine hK _ ?_;clear hK K)))
 refine Yt (ME R hn hr) ?_
 by_cases g0:BZ R=true
 rotate_left
 ·have g0':BZ R=false:=by simpa using g0
  (refine aj (an @g0' @gA8) ?_;repeat refine kq fun K hK=>?_)
  refine W2 ?_
  (refine ai ?_;(repeat clear hK K);repeat refine kq fun K hK=>?_)
  refine W6 [] Tryz.results54 ?_
  rw [MB g0']
 (refine aj (an @g0 @gA9) ?_;repeat refine kq fun K hK=>?_)
 refine W3 ?_
 (refine aj @A6 ?_;(repeat clear hK K);repeat refine kq fun K hK=>?_)
 refine Ab (fun k:Nat=>{ tm:=[(1,.a (.c (.p 0 0))),(3,.i k)],hp:=[.r ⟨27,1,false,[.t 1 (AK R)]⟩],n:=44,pin:=0 }) (fun k=>k<=R.length/\∀ i r,i<k->R[i]?=some r->SortA r) (fun k=>R.length - k) 0 ?_ ?_ ?_
 ·exact ⟨by omega,fun i _ hi=>by omega⟩
 ·exact W5
 rintro k ⟨hk,hc⟩ K hK
 by_cases hlt:k<R.length
 rotate_left
 ·have hl1:=Yq hlt
  (refine aj (an @hl1 @A6) ?_;repeat refine kq fun K hK=>?_)
  refine W3 ?_
  (refine VZ ?_;repeat clear hK K)
  (refine ai ?_;(repeat clear hK K);repeat refine kq fun K hK=>?_)
  refine W6 [] Tryz.results54 ?_
  rw [Ka g0 (fun i r hi=>hc i r (by omega))]
 have hl1:=Yp hlt
 have hgk:=gE1 hlt
 have hrk:=hr _ (gE6 hlt)
 (refine aj (an @hl1 @A6) ?_;repeat refine kq fun K hK=>?_)
 refine W2 ?_
 (refine ai ?_;(repeat clear hK K);repeat refine kq fun K hK=>?_)
 refine Ab (fun j:Nat=>{ tm:=[(1,.a (.c (.p 0 0))),(3,.i k),(4,.i (j+1:Nat))],hp:=[.r ⟨27,1,false,[.t 1 (AK R)]⟩],n:=44,pin:=0 }) (fun j=>j<=R[k].length/\∀ i a b,i<j->R[k][i]?=some a->R[k][i+1]?=some b->Wb a b=true) (fun j=>R[k].length - j) 0 ?_ ?_ ?_
 ·exact ⟨by omega,fun i _ _ hi=>by omega⟩
 ·exact W5
 rintro j ⟨hj,hj2⟩ K hK
 by_cases hltj:j+1<R[k].length
 rotate_left
 ·have hl2:decide (((j+1:Nat):Int)<(R[k].length:Int))=false:=by simp;omega
  (refine aj (an @hl2 (an (Ao hgk) (an @A6 (an @A3 @Aq)))) ?_;repeat refine kq fun K hK=>?_)
  refine W3 ?_
  (refine VZ ?_;repeat clear hK K)
  (refine ai ?_;(repeat clear hK K);repeat refine kq fun K hK=>?_)
  refine W4 ?_
  refine hK _ (k+1) ⟨by omega,fun i r hi hir=>?_⟩ (by omega) ?_
  rotate_left
  ·exact W5
  by_cases e:i=k
  rotate_left
  ·exact hc i r (by omega) hir
  subst e;rw [hgk] at hir;cases hir
  exact I4 fun i a b ha hb=>hj2 i a b (by have:=(List.getElem?_eq_some_iff.1 hb).1;omega) ha hb
 have hl2:decide (((j+1:Nat):Int)<(R[k].length:Int))=true:=by simp;omega
 have hltj0:j<R[k].length:=by omega
 have hgj:=gE1 hltj0
 have hgj1:=gE1 hltj
 have haj:=AS hltj0
 have haj1:=AS hltj
 have e1:((j+1:Nat):Int) - 1=(j:Int):=by omega
 (refine aj (an @hl2 (an (Ao hgk) (an @A6 (an @A3 @Aq)))) ?_;repeat refine kq fun K hK=>?_)
 refine W2 ?_
 (refine ai ?_;repeat refine kq fun K hK=>?_)
 refine Yr 17 [(0,0),(1,1),(2,0),(3,0),(4,1),(5,0),(6,0),(7,0),(8,1),(9,0),(10,1),(11,0),(12,0),(13,1),(14,0),(15,0),(16,1),(17,2),(18,0)] ?_
 (refine VS (an @e1 (an (Ao hgk) (an @A6 (an @A3 (an @Aq (an @haj @haj1)))))) ?_;repeat clear hK K)
 (refine Qa (K2 R[k][j] R[k][j+1]) ?_;intro K1 hK1)
 rintro _ _ ⟨rfl,rfl⟩
 (refine W1 ?_;clear hK1 K1)
 cases hlt2:Wb R[k][j] R[k][j+1] with
 | false=>
  (refine VS (an @H2 (an @hlt2 @gA8)) ?_;repeat clear hK K)
  refine W2 ?_
  (refine ai ?_;(repeat clear hK K);repeat refine kq fun K hK=>?_)
  refine W6 [] Tryz.results54 ?_
  rw [K9 hgk hgj hgj1 hlt2]
 | true=>
  (refine VS (an @H2 (an @hlt2 @gA9)) ?_;repeat clear hK K)
  refine W3 ?_
  (refine ai ?_;(repeat clear hK K);repeat refine kq fun K hK=>?_)
  refine W4 ?_
  refine hK _ (j+1) ⟨by omega,fun i a b hi ha hb=>?_⟩ (by omega) ?_
  ·by_cases e:i=j
   ·subst e;rw [hgj] at ha;rw [hgj1] at hb;cases ha;cases hb;exact hlt2
   exact hj2 i a b (by omega) ha hb
  have e2:(((j+1:Nat):Int)+1)=((j+1+1:Nat):Int):=by omega
  (refine Bh ?_;simp only [CS,go_sem,e2];try simp)
end Go.Proofs.YtbnabodoabimnaaGreat
