/- Lemmas. -/
import Derived.Test.YtbnabodoabimnaaGreatZk
import Derived.Test.YtbnabodoabimnaaGreatNp2
import Derived.Test.YtbnabodoabimnaaGreatG53
import Derived.Test.YtbnabodoabimnaaGreatG43
import Derived.Test.YtbnabodoabimnaaGreatMlz
import Derived.Test.YtbnabodoabimnaaGreatMD
namespace Go.Proofs.YtbnabodoabimnaaGreat
set_option linter.unusedVariables false
set_option linter.unusedSimpArgs false
open Go.RowKit
set_option maxRecDepth 100000
attribute [local go_sem] lga C.pl C.one
theorem Pz (R:List (List Ar)) (F:List Nat) (e:Int) (hlo:BZ R=true) (hn:R.length<=1000000) (hr:∀ r∈R,r.length<=1000000) (hF:∀ v∈F,v<R.length) (hFl:F.length<=1000000) (seen:List Int) (rd:Int) (hs:seen.length=R.length) (hb:∀ x∈seen,x<=rd) (h0:0<=rd) (h1:rd<=100000000):
  FC Tryz.prog 114 [.a (.c (.p 0 0)),.a (.c (.t 1 (Ac (F.map Int.ofNat)))),.i e] [Wy R 1 rd,.r ⟨3,1,true,A9 seen⟩] (fun r o=>∃ seen':List Int,seen'.length=R.length/\(∀ x∈seen',x<=rd+1+1)/\o=[Wy R 1 (rd+1+1),.r ⟨3,1,true,A9 seen'⟩]/\r=.a (.c (.t 1 (Ac ((EP R F e).map Int.ofNat))))):=by
 refine A7 Tryz.func114 rfl (by rw [Tryz.ntmps114];simp) ?_
 rw [Tryz.ntmps114]
 simp only [B4,Wy]
 have hbd:=(gE4 hlo).2.2.2
 (refine ai ?_;(repeat clear hK K);repeat refine kq fun K hK=>?_)
 (refine Aj rfl ?_;intro K1 hK1;refine Ax (ids:=[]) [0,1] (J9 R F e hlo hn hr hF hFl seen rd hs hb h0 (by omega)) rfl rfl (by simp only [go_sem]) (by first | assumption | kernel_rfl) rfl rfl (by (simp only [gAT,gAk,go_sem]) <;> rfl) (by (simp only [Vk,Wy,A5,go_sem]) <;> rfl) ?_ ?_)
 ·rintro _ _ ⟨_,_,_,_,_,rfl,rfl⟩;rfl
 rintro _ _ ⟨seen2,hse2,hsb2,p2,hp2,rfl,rfl⟩
 (simp only [Ap,AC,Wy,AL,Ys,go_sem];refine hK1 _ ?_;clear hK1 K1)
 obtain ⟨N,hNd⟩:∃ N,N=DV R.length p2:=⟨_,rfl⟩
 rw [<- hNd]
 have hNm:∀ v,v∈N↔v∈tg R F e:=fun v=>by
  rw [hNd,BI]
  constructor
  ·rintro ⟨h5,h6⟩;exact (hp2 v h5).1 h6
  intro h6
  have h5:v<R.length:=by
   obtain ⟨s,h7,h8⟩:=Yx.1 h6
   obtain ⟨a,ha,_,rfl⟩:=DF.1 h8
   have h9:=hF s h7
   rw [gE2,gE1 h9,gBF] at ha
   have:=hbd _ (gE6 h9) a ha
   omega
  exact ⟨h5,(hp2 v h5).2 h6⟩
 have hNl:N.length<=R.length:=by rw [hNd];exact KC _ _
 have hNb:∀ v∈N,v<R.length:=fun v hv=>by rw [hNd,BI] at hv;exact hv.1
 have htk2:(Ac (N.map Int.ofNat)).take N.length=Ac (N.map Int.ofNat):=gE7 (by rw [A2,gAN];exact gBu _)
 (refine Bw (B6 (r:=⟨3,1,true,A9 (N.map Int.ofNat)⟩) 2 (Ac (N.map Int.ofNat)) rfl (ES _) (show 0<(1:Nat) by omega)) ?_;simp only [ST.frz,A0.frz,AV.frz,C.frz,gBu,gBj,gBi,go_sem,A2,gAN,htk2])
 (refine ai ?_;(repeat clear hK K);repeat refine kq fun K hK=>?_)
 (refine Aj rfl ?_;intro K1 hK1;refine Ax (ids:=[]) [0,1] (Ie R true N hlo hn hr hNb (by omega) seen2 (rd+1) hse2 hsb2 (by omega) (by omega)) rfl rfl (by simp only [go_sem]) (by first | assumption | kernel_rfl) rfl rfl (by (simp only [gAT,gAk,go_sem]) <;> rfl) (by (simp only [Vk,Wy,A5,go_sem]) <;> rfl) ?_ ?_)
 ·rintro _ _ ⟨_,_,_,_,_,rfl,rfl⟩;rfl
 rintro _ _ ⟨seen3,hse3,hsb3,p3,hp3,rfl,rfl⟩
 (simp only [Ap,AC,Wy,AL,Ys,go_sem];refine hK1 _ ?_;clear hK1 K1)
 have hA:DV R.length p3=EP R F e:=Nl fun u hu=>by rw [hp3 u hu];simp only [hNm]
 rw [hA]
 obtain ⟨W,hW⟩:∃ W,W=EP R F e:=⟨_,rfl⟩
 rw [<- hW]
 have htk3:(Ac (W.map Int.ofNat)).take W.length=Ac (W.map Int.ofNat):=gE7 (by rw [A2,gAN];exact gBu _)
 (refine Bw (B6 (r:=⟨3,1,true,A9 (W.map Int.ofNat)⟩) 3 (Ac (W.map Int.ofNat)) rfl (ES _) (show 0<(1:Nat) by omega)) ?_;simp only [ST.frz,A0.frz,AV.frz,C.frz,gBu,gBj,gBi,go_sem,A2,gAN,htk3])
 (refine ai ?_;(repeat clear hK K);repeat refine kq fun K hK=>?_)
 ((try refine Ak ?_);(try simp only [Ad,Ay]);refine AB (A8 [0,1] rfl rfl) ?_;(try simp only [Yn,go_sem]);((try refine Ak ?_);(try refine Aa ?_);(try simp only [Ad,Ay]);refine AN (by first | exact .inl rfl | exact .inr rfl) rfl ?_;simp only [Vm,Cq,Ck,Cx,Tryz.results114,go_sem,true_and,and_true,A5,Wy]))
 exact ⟨seen3,hse3,hsb3,rfl,by rw [hW]⟩
def Fx (R:List (List Ar)) (m:Int) (B:List Bool) (S:List (List Nat)) (rd:Int) (seen:List Int) (M:List (Value × Value)):List Ob:=
 [.r ⟨93,1,false,[.p 1 0]⟩,.r ⟨100,6,false,[.t 1 (AK R),.v (.int .i64 m),.p 2 0,.t 1 (Ws B),.m 4,.o (1,37) (Az (Xu S))]⟩,Wy R 3 rd,.r ⟨3,1,true,A9 seen⟩,.m (M.map fun p=>(p.1,C.v p.2))]
theorem S0 (R:List (List Ar)) (m:Int) (B:List Bool) (S:List (List Nat)) (rd:Int) (seen:List Int) (M:List (Value × Value)) (s:Nat) (hs:s<B.length):
  FC Tryz.prog 112 [.i (s:Nat),.a (.c (.p 0 0))] (Fx R m B S rd seen M) (fun r o=>o=Fx R m B S rd seen M/\r=.b (B.getD s false)):=by
 refine A7 Tryz.func112 rfl (by rw [Tryz.ntmps112];simp) ?_
 rw [Tryz.ntmps112]
 have hg:=J5 (gE1 hs)
 have hB:B.getD s false=B[s]:=by rw [gE2,gE1 hs];rfl
 rw [hB]
 simp only [B4,Fx,Wy]
 (refine aj (an @DE @hg) ?_;(repeat clear hK K);repeat refine kq fun K hK=>?_)
 ((try refine Ak ?_);(try simp only [Ad,Ay]);refine AB (A8 [0,1,2,3,4] rfl rfl) ?_;(try simp only [Yn,go_sem]);((try refine Ak ?_);(try refine Aa ?_);(try simp only [Ad,Ay]);refine AN (by first | exact .inl rfl | exact .inr rfl) rfl ?_;simp only [Vm,Cq,Ck,Cx,Tryz.results112,go_sem,true_and,and_true,A5,gAW,gAb,Wy,Fx]))
theorem S3 (R:List (List Ar)) (m:Int) (B:List Bool) (S:List (List Nat)) (rd:Int) (seen:List Int) (M:List (Value × Value)) (X:List Nat) (hX:∀ s∈X,s<B.length) (hn:X.length<=1000000):
  FC Tryz.prog 135 [.a (.c (.t 1 (Ac (X.map Int.ofNat)))),.a (.c (.f 112 [0]))] (Fx R m B S rd seen M) (fun r o=>o=Fx R m B S rd seen M/\∃ n:Int,r=.i n /\ -1<=n/\(0<=n↔X.any (fun s=>B.getD s false)=true)):=by
 refine A7 Tryz.func135 rfl (by rw [Tryz.ntmps135];simp) ?_
 rw [Tryz.ntmps135]
 have hXl:(X.map Int.ofNat).length=X.length:=gAN _
 have hcal:B3 Tryz.prog 112=true:=by kernel_rfl
 have hd:=hX
 clear hX
 simp only [B4,Fx,Wy]
 (refine aj (an @A2 @hXl) ?_;(repeat clear hK K);repeat refine kq fun K hK=>?_)
 refine Ab (fun i:Nat=>{ tm:=[(0,.a (.c (.t 1 (Ac (X.map Int.ofNat))))),(1,.a (.c (.f 112 [0]))),(7,.i X.length),(8,.i i)],hp:=Fx R m B S rd seen M,n:=19,pin:=5 }) (fun i=>i<=X.length/\∀ j x,j<i->X[j]?=some x->B.getD x false=false) (fun i=>X.length - i) 0 ?_ ?_ ?_
 ·exact ⟨by omega,by intro i x hi;omega⟩
 ·simp only [Fx,Wy]
  exact W5
 rintro i ⟨hk,hno⟩ K hK
 by_cases hlt:i<X.length
 rotate_left
 ·have hl1:=Yq hlt
  simp only [Fx,Wy]
  (refine aj @hl1 ?_;repeat refine kq fun K hK=>?_)
  refine W3 ?_
  (refine VZ ?_;repeat clear hK K)
  (refine ai ?_;(repeat clear hK K);repeat refine kq fun K hK=>?_)
  ((try refine Ak ?_);(try simp only [Ad,Ay]);refine AB (A8 [0,1,2,3,4] rfl rfl) ?_;(try simp only [Yn,go_sem]);((try refine Ak ?_);(try refine Aa ?_);(try simp only [Ad,Ay]);refine AN (by first | exact .inl rfl | exact .inr rfl) rfl ?_;simp only [Vm,Cq,Ck,Cx,Tryz.results135,go_sem,true_and,and_true,A5,gAW,gAb,Wy,Fx]))
  refine ⟨-1,rfl,by omega,?_⟩
  have:X.any (fun s=>B.getD s false)=false:=by
   rw [List.any_eq_false]
   intro x hm
   obtain ⟨j,hj⟩:=gB6.1 hm
   rw [hno j x (by have:=(List.getElem?_eq_some_iff.1 hj).1;omega) hj];simp
  rw [this];simp
 have hl1:=Yp hlt
 have hg:=gE1 hlt
 have gX:(Ac (X.map Int.ofNat))[i]?=some (.v (.int .i64 (X[i]:Nat))):=Al (by rw [gAC,hg];rfl)
 have hsl:=hd _ (gE6 hlt)
 have hmem:=gE6 hlt
 generalize X[i]=u at *
 simp only [Fx,Wy]
 (refine aj @hl1 ?_;repeat refine kq fun K hK=>?_)
 refine W2 ?_
 (refine aj (an @A2 (an @hXl @gX)) ?_;(repeat clear hK K);repeat refine kq fun K hK=>?_)
 (refine Aj rfl ?_;intro K1 hK1;refine Ax (ids:=[0]) [0,1,2,3,4] (S0 R m B S rd seen M u hsl) rfl rfl (by simp only [go_sem]) (by first | assumption | kernel_rfl) rfl rfl (by (simp only [gAT,gAk,go_sem]) <;> rfl) (by (simp only [Vk,A5,gAW,gAb,Wy,Fx,go_sem]) <;> rfl) ?_ ?_)
 ·rintro _ _ ⟨rfl,rfl⟩;rfl
 rintro _ _ ⟨rfl,rfl⟩
 (simp only [Ap,AC,Fx,Wy,AL,gAW,gAb,Ys,go_sem];refine hK1 _ ?_;clear hK1 K1)
 cases hp:B.getD u false with
 | true=>
  (refine aj @hp ?_;repeat refine kq fun K hK=>?_)
  refine W2 ?_
  (refine ai ?_;(repeat clear hK K);repeat refine kq fun K hK=>?_)
  ((try refine Ak ?_);(try simp only [Ad,Ay]);refine AB (A8 [0,1,2,3,4] rfl rfl) ?_;(try simp only [Yn,go_sem]);((try refine Ak ?_);(try refine Aa ?_);(try simp only [Ad,Ay]);refine AN (by first | exact .inl rfl | exact .inr rfl) rfl ?_;simp only [Vm,Cq,Ck,Cx,Tryz.results135,go_sem,true_and,and_true,A5,gAW,gAb,Wy,Fx]))
  exact ⟨i,rfl,by omega,by simp only [gAi];exact ⟨fun _=>⟨_,hmem,hp⟩,fun _=>by omega⟩⟩
 | false=>
  (refine aj @hp ?_;repeat refine kq fun K hK=>?_)
  refine W3 ?_
  (refine ai ?_;(repeat clear hK K);repeat refine kq fun K hK=>?_)
  refine W4 ?_
  refine hK _ (i+1) ⟨by omega,fun j x hj hx=>?_⟩ (by omega) ?_
  rotate_left
  ·simp only [Fx,Wy]
   exact W5
  by_cases e:j=i
  ·subst e;rw [hg] at hx;cases hx;exact hp
  exact hno j x (by omega) hx
theorem S4 (R:List (List Ar)) (m:Int) (B:List Bool) (S:List (List Nat)) (rd:Int) (seen:List Int) (M:List (Value × Value)) (X:List Nat) (hX:∀ s∈X,s<B.length) (hn:X.length<=1000000):
  FC Tryz.prog 111 [.a (.c (.t 1 (Ac (X.map Int.ofNat)))),.a (.c (.f 112 [0]))] (Fx R m B S rd seen M) (fun r o=>o=Fx R m B S rd seen M/\r=.b (X.any fun s=>B.getD s false)):=by
 refine A7 Tryz.func111 rfl (by rw [Tryz.ntmps111];simp) ?_
 rw [Tryz.ntmps111]
 simp only [B4,Fx,Wy]
 (refine ai ?_;(repeat clear hK K);repeat refine kq fun K hK=>?_)
 (refine Aj rfl ?_;intro K1 hK1;refine Ax (ids:=[]) [0,1,2,3,4] (S3 R m B S rd seen M X hX hn) rfl rfl (by simp only [go_sem]) (by first | assumption | kernel_rfl) rfl rfl (by (simp only [gAT,gAk,go_sem]) <;> rfl) (by (simp only [Vk,A5,gAW,gAb,Wy,Fx,go_sem]) <;> rfl) ?_ ?_)
 ·rintro _ _ ⟨rfl,n,rfl,hn1,hn2⟩;rfl
 rintro _ _ ⟨rfl,n,rfl,hn1,hn2⟩
 (simp only [Ap,AC,Fx,Wy,AL,gAW,gAb,Ys,go_sem];refine hK1 _ ?_;clear hK1 K1)
 (refine ai ?_;(repeat clear hK K);repeat refine kq fun K hK=>?_)
 have e:decide (n>=0)=X.any fun s=>B.getD s false:=by rw [gA4,decide_eq_true_iff];exact hn2
 ((try refine Ak ?_);(try simp only [Ad,Ay]);refine AB (A8 [0,1,2,3,4] rfl rfl) ?_;(try simp only [Yn,go_sem]);((try refine Ak ?_);(try refine Aa ?_);(try simp only [Ad,Ay]);refine AN (by first | exact .inl rfl | exact .inr rfl) rfl ?_;simp only [Vm,Cq,Ck,Cx,Tryz.results111,go_sem,true_and,and_true,A5,gAW,gAb,Wy,Fx]))
 simp only [e]
theorem Nw (r:List Ar):(WD r).Pairwise (· < ·):=by
 have:∀ (r:List Ar) (acc:List Int),acc.Pairwise (· < ·)->(r.foldl (fun acc a=>Df a.1 acc) acc).Pairwise (· < ·):=by
  intro r
  induction r with
  | nil=>intro acc h;exact h
  | cons a r ih=>intro acc h;exact ih _ (DN h)
 exact this r [] List.Pairwise.nil
theorem S5:∀ (r:List Ar) (acc:List Int),r.Pairwise (fun a b=>a.1<=b.1)->acc.Pairwise (· < ·)->(∀ x∈acc,∀ a∈r,x<=a.1)->
  (r.foldl BR acc).Pairwise (· < ·)/\∀ x,x∈r.foldl BR acc↔x∈acc\/∃ a∈r,a.1=x:=by
 intro r
 induction r with
 | nil=>intro acc _ h _;exact ⟨h,fun x=>by simp⟩
 | cons a r ih=>
  intro acc hr ha hx
  have hr2:=gBe.1 hr
  have hst:(BR acc a).Pairwise (· < ·)/\(∀ x,x∈BR acc a↔x∈acc\/x=a.1):=by
   unfold BR
   split
   ·rename_i h
    refine ⟨ha,fun x=>⟨.inl,fun h2=>h2.elim id fun e=>?_⟩⟩
    rw [e];exact List.mem_of_getLast? h
   rename_i h
   refine ⟨gBd.2 ⟨ha,by simp,fun x h1 y h2=>?_⟩,fun x=>by simp⟩
   simp at h2;subst h2
   have h3:=hx x h1 a (by simp)
   rcases Int.lt_or_eq_of_le h3 with h4 | h4
   ·exact h4
   exfalso
   apply h
   obtain ⟨i,hi,rfl⟩:=gAG h1
   rw [List.getLast?_eq_getElem?,gE1 (by omega)]
   congr 1
   have hlt:acc.length - 1<acc.length:=by omega
   rcases gBx i (acc.length - 1) with h5 | h5
   rotate_left
   ·have:i=acc.length - 1:=by omega
    subst this;exact h4
   have h6:=gBf.1 ha i (acc.length - 1) hi hlt h5
   have h7:=hx _ (gE6 hlt) a (by simp)
   omega
  rw [gAw]
  obtain ⟨q1,q2⟩:=ih (BR acc a) hr2.2 hst.1 (fun x h b hb=>by
   rcases (hst.2 x).1 h with h | h
   ·exact hx x h b (gEf _ hb)
   ·subst h;exact hr2.1 b hb)
  refine ⟨q1,fun x=>?_⟩
  rw [q2,hst.2]
  simp only [gB2,exists_eq_or_imp]
  rw [or_assoc]
  constructor
  ·rintro (h | h | h)
   ·exact .inl h
   ·exact .inr (.inl h.symm)
   exact .inr (.inr h)
  rintro (h | h | h)
  ·exact .inl h
  ·exact .inr (.inl h.symm)
  exact .inr (.inr h)
theorem KN {r:List Ar} (h:SortA r):r.Pairwise (fun a b=>a.1<=b.1):=h.imp fun {a b} hab=>by rw [DA] at hab;omega
theorem S6 {r:List Ar} (h:SortA r):Hf r=WD r:=by
 obtain ⟨h1,h2⟩:=S5 r [] (KN h) List.Pairwise.nil (by simp)
 refine GV h1 (Nw r) fun a=>?_
 unfold Hf
 rw [h2,C9];simp
theorem TF {r:List Ar} (h:SortA r) (h0:∀ a∈r,0<=a.1):Wz r=!decide ((0:Int)∈WD r):=by
 cases r with
 | nil=>rfl
 | cons a r=>
  have hp:=gBe.1 (KN h)
  by_cases e:a.1=0
  ·have:(0:Int)∈WD (a :: r):=C9.2 ⟨a,by simp,e⟩
   simp [Wz,e,this]
  have:¬ (0:Int)∈WD (a :: r):=fun hm=>by
   obtain ⟨b,hb,e2⟩:=C9.1 hm
   have ha:=h0 a (by simp)
   rcases gB2.1 hb with rfl | hb
   ·exact e e2
   have:=hp.1 b hb;omega
  simp [Wz,e,this]
theorem TG {r:List Ar} (h:SortA r) (h0:∀ a∈r,0<=a.1):RB r=Gd r:=by
 have ht:r.any DG=decide ((1:Int)∈WD r):=by
  rw [gA4,gAi,decide_eq_true_iff,C9]
  simp [DG]
 unfold RB Gd
 rw [ht,TF h h0,S6 h]
 by_cases h1:(1:Int)∈WD r
 ·simp [h1]
 by_cases h2:(0:Int)∈WD r <;> simp [h1,h2]
theorem S7 {s:ST} (i j e k:Nat) {r:Row} (hi:s.hp[i]?=some (.r r)) (hj:r.cells[j]?=some (.v (.slice none 0 0))) (hk:0<k):Le s { s with tm:=Oh [i] s.tm,hp:=s.hp.set i (.r { r with cells:=r.cells.set j (.o (k,e) []) })++[.d] }:=by
 have hil:=(List.getElem?_eq_some_iff.1 hi).1
 have hjl:=(List.getElem?_eq_some_iff.1 hj).1
 have hne:i ≠ s.hp.length:=by omega
 have a:=I6 (s:=s) e k
 have b:=FU (s:={ s with hp:=s.hp++[Ob.r ⟨e,k,true,[]⟩] }) i j s.hp.length (r:=r) (e0:=e) (k0:=k) hne (by simp only;rw [gEa hil];exact hi) hj (by simp)
 have c:=AQ (s:={ s with hp:=(s.hp++[Ob.r ⟨e,k,true,[]⟩]).set i (Ob.r { r with cells:=r.cells.set j (.s s.hp.length 0) }) }) i j s.hp.length 0 (r:=⟨e,k,true,[]⟩) (ri:={ r with cells:=r.cells.set j (.s s.hp.length 0) }) (ts:=[]) hne (by simp only;rw [gEc (by simp;omega)]) (by simp only;rw [gEc hjl]) (by simp only;rw [gE5 hne];simp) rfl hk (by simp) trivial
 have h:=(a.trans b).trans c
 have e1:((((s.hp++[Ob.r ⟨e,k,true,[]⟩]).set i (.r { r with cells:=r.cells.set j (.s s.hp.length 0) })).set i (.r { r with cells:=(r.cells.set j (.s s.hp.length 0)).set j (.o (k,e) []) })).set s.hp.length .d)=s.hp.set i (.r { r with cells:=r.cells.set j (.o (k,e) []) })++[.d]:=by
  rw [List.set_set,List.set_set,List.set_append_left _ _ hil,gBh _ _ (by simp)]
  simp
 simp only at h
 rw [e1] at h
 exact h
def Xy (l:List (List Int)):List (List Int):=l.foldl (fun acc a=>if a∈acc then acc else acc++[a]) []
theorem Nx {x:List Int}:∀ (l acc:List (List Int)),x∈l.foldl (fun acc a=>if a∈acc then acc else acc++[a]) acc↔x∈acc\/x∈l
 | [],acc=>by simp
 | a :: l,acc=>by
  rw [gAw,Nx l]
  by_cases h:a∈acc
  ·rw [if_pos h,gB2]
   constructor
   ·rintro (q | q)
    ·exact .inl q
    ·exact .inr (.inr q)
   ·rintro (q | rfl | q)
    ·exact .inl q
    ·exact .inl h
    ·exact .inr q
  ·rw [if_neg h,gB0,gBb,gB2,or_assoc]
theorem Hn {x:List Int} {l:List (List Int)}:x∈Xy l↔x∈l:=by unfold Xy;rw [Nx];simp
theorem PA (l:List (List Int)) (a:List Int):Xy (l++[a])=if a∈Xy l then Xy l else Xy l++[a]:=by
 unfold Xy
 rw [gAv];rfl
theorem Ny:∀ (l acc:List (List Int)),(l.foldl (fun acc a=>if a∈acc then acc else acc++[a]) acc).length<=acc.length+l.length
 | [],acc=>by simp
 | a :: l,acc=>by
  rw [gAw,gAJ]
  refine gBv (Ny l _) ?_
  split
  ·omega
  ·rw [gAI,gAR];omega
theorem Nz (l:List (List Int)):(Xy l).length<=l.length:=by
 have:=Ny l []
 rw [gAO,gBD] at this
 exact this
theorem PB {A B:List (List Int)} (hA:∀ s∈A,W9 s) (h:∀ s,s∈A↔s∈B):D2 A=D2 B:=by
 have hB:∀ s∈B,W9 s:=fun s hs=>hA s ((h s).2 hs)
 refine FO (D7 A) (D7 B) fun s=>?_
 rw [CU hA,CU hB,h]
 have:E4 A s=E4 B s:=by
  rw [gA4]
  simp only [E4,gAg]
  exact ⟨fun q o ho=>q o ((h o).2 ho),fun q o ho=>q o ((h o).1 ho)⟩
 rw [this]
theorem NA {r:List Ar} (h:∀ a∈r,0<=a.1/\a.1<=1025):W9 (Gd r).1/\∀ x∈(Gd r).1,0<=x/\x<((1026:Nat):Int):=by
 unfold Gd
 split
 ·exact ⟨List.pairwise_singleton _ _,by simp⟩
 split
 ·exact ⟨List.Pairwise.nil,by simp⟩
 refine ⟨Nw r,fun x hx=>?_⟩
 obtain ⟨a,ha,rfl⟩:=C9.1 hx
 have:=h a ha
 omega
theorem Ip {R:List (List Ar)} {X:List Nat} (h:∀ r∈R,∀ a∈r,0<=a.1/\a.1<=1025) (hX:∀ s∈X,s<R.length):∀ y∈Xg R X,W9 y/\∀ x∈y,0<=x/\x<((1026:Nat):Int):=by
 intro y hy
 unfold Xg at hy
 obtain ⟨s,hs,h2⟩:=List.mem_filterMap.1 hy
 split at h2
 rotate_left
 ·cases h2
 cases h2
 have hl:=hX s hs
 rw [gE2,gE1 hl,gBF]
 exact NA (h _ (gE6 hl))
theorem KO (R:List (List Ar)) (X:List Nat) (s:Nat):Xg R (X++[s])=Xg R X++(if (Gd (R.getD s [])).2 then [(Gd (R.getD s [])).1] else []):=by
 unfold Xg
 rw [List.filterMap_append]
 congr 1
 simp only [List.filterMap_cons,List.filterMap_nil]
 split <;> rename_i q <;> split at q <;> simp_all
theorem Ei (R:List (List Ar)) (X:List Nat):(Xg R X).length<=X.length:=List.length_filterMap_le _ _
def Xz (D:List (List Int)):List (Value × Value):=D.map fun a=>(Dg a,Value.bool true)
theorem TH (D:List (List Int)):((Xz D).map fun p=>(p.1,C.v p.2)).all (fun p=>p.2.pl)=true:=by
 rw [gAg]
 intro p hp
 obtain ⟨q,hq,rfl⟩:=gB7.1 hp
 obtain ⟨a,_,rfl⟩:=gB7.1 hq
 rfl
theorem PC (D:List (List Int)) (a:List Int):((Xz D).map fun p=>(p.1,C.v p.2))++[(Dg a,C.v (.bool true))]=(Xz (D++[a])).map fun p=>(p.1,C.v p.2):=by simp [Xz]
def XA (a:List Int):Prop:=∀ x∈a,0<=x/\x<2147483648
theorem Jp {x y:List Int} (hx:XA x) (hy:XA y):Cr .ks (Dg x) (Dg y)=some (decide (x=y)):=by
 show some _=some _
 congr 1
 rw [gA4,decide_eq_true_iff,MapKept.bytes_beq]
 constructor
 rotate_left
 ·intro h;rw [h]
 intro h
 exact KH hx hy (by unfold Dg;rw [h])
theorem PD {x:List Int} (hx:XA x):E0 .ks (Dg x)=true:=by unfold E0;rw [Jp hx hx]
theorem KP {x:List Int} (hx:XA x):∀ (D:List (List Int)) (q:Nat),(∀ y∈D,XA y)->(x∈D->∃ j,Bd .ks (Dg x) ((Xz D).map fun p=>(p.1,C.v p.2)) q=some (some (j,.v (.bool true))))/\(x ∉ D->Bd .ks (Dg x) ((Xz D).map fun p=>(p.1,C.v p.2)) q=some none)
 | [],_,_=>⟨fun h=>by simp at h,fun _=>rfl⟩
 | y :: D,q,hD=>by
  obtain ⟨ih1,ih2⟩:=KP hx D (q+1) fun z hz=>hD z (gEf _ hz)
  have hk:Bd .ks (Dg x) ((Xz (y :: D)).map fun p=>(p.1,C.v p.2)) q=if x=y then some (some (q,.v (.bool true))) else Bd .ks (Dg x) ((Xz D).map fun p=>(p.1,C.v p.2)) (q+1):=by
   have h0:Bd .ks (Dg x) ((Xz (y :: D)).map fun p=>(p.1,C.v p.2)) q=match Cr .ks (Dg x) (Dg y) with | some true=>some (some (q,C.v (.bool true))) | some false=>Bd .ks (Dg x) ((Xz D).map fun p=>(p.1,C.v p.2)) (q+1) | none=>none:=rfl
   rw [h0,Jp hx (hD y gB3)]
   by_cases e:x=y
   ·rw [gEg e,if_pos e]
   ·rw [gBK e,if_neg e]
  rw [hk]
  by_cases e:x=y
  ·rw [if_pos e]
   subst e
   exact ⟨fun _=>⟨q,rfl⟩,fun h=>absurd gB3 h⟩
  ·rw [if_neg e]
   exact ⟨fun h=>ih1 ((gB2.1 h).resolve_left e),fun h=>ih2 fun q=>h (gEf _ q)⟩
theorem NB {R:List (List Ar)} {X:List Nat} (h:∀ r∈R,∀ a∈r,0<=a.1/\a.1<=1025) (hX:∀ s∈X,s<R.length):(Xf R X).length<=1026:=
 E7 (Hm R X) fun e he=>by
  obtain ⟨s,hs,a,ha,_,rfl⟩:=Dm.1 he
  have hl:=hX s hs
  rw [gE2,gE1 hl,gBF] at ha
  have:=h _ (gE6 hl) a ha
  omega
theorem Ch {P:Program} {o:Oper} {st:ST} {K:ST->Prop} {fl:List Nat} {fop:Operand} {args:Array Operand} {ts:Array TypeId} {f:FuncId} {ids:List Nat} {R:AV->List Ob->Prop} {A:List AV} {I:List Ob} (σ:List Nat) (hFC:FC P f A I R)
  (hrows:Ct st.hp fl=true) (hlt:Dy st.pin fl=true) (hdis:Uk fl σ=true)
  (hd:Vc o st.n=true) (ho:o.op=.call { callee:=.value fop,args:=args,argTypes:=ts }) (hf:st.ev fop=.a (.c (.f f ids))) (hcal:B3 P f=true) (hσ:B1 σ=true) (hpl:(σ.all fun i=>decide (i<st.hp.length))=true)
  (hA:(args.toList.map st.ev++F9 ids).map (AV.ren σ)=A) (hI:Vk st.hp σ=I)
  (hs:∀ r outs,R r outs->((outs.take σ.length).all Ob.born)=true)
  (hK:∀ r outs,R r outs->K ((st.back σ outs).put o.dst (r.up (Vn σ st.hp.length)))):Tj P o st K fl:=by
 subst hA;subst hI
 intro M0 w0 a w N Q hR hN
 refine HY σ hd ho hf hcal hσ (fun i hi=>by simpa using gAg.1 hpl i hi) hFC (fun r outs hr i ob hi hl=>?_) hK hR fun g hx hg st' a' w' h1 h2 h3=>hN st' a' w' h1 h2 fun id0 hid x hxx=>?_
 ·refine gAg.1 (hs r outs hr) ob ?_
  exact gE9 (i:=i) (by rw [gAF,if_pos hl];exact hi)
 have hsz:M0.g.γ (.ob id0)<w.heap.size:=(Array.getElem?_eq_some_iff.1 hxx).1
 rw [h3.block _ hsz ?_];exact hxx
 rintro ⟨ℓ,hlv,he⟩
 obtain ⟨q1,id,q2⟩:=Dx hlv
 rw [Cj,<- (hx.2.2 id0 (Cb hlt hid)).1] at he
 obtain ⟨r0,r1,r2⟩:=D6 hrows hid
 have live:Lv st.hp g (.ob id0):=.inl ⟨r0,r1,fun h0=>by
  rcases hg.hr.row id0 r0 r1 with ⟨_,z⟩ | ⟨z,_⟩
  ·exact r2 z
  ·exact z h0⟩
 have hinj:=hg.hr.inj _ _ q1 live he
 cases ℓ with
 | ob i=>
  simp only [τ,AO q2] at hinj
  cases hinj
  have:=gAg.1 hdis _ hid
  simp at this
  exact this (gE9 q2)
 | cl i j=>cases hinj
theorem LH (f:List Nat) (L:List (List Int)):(Au L).map (C.ren f)=Au L:=by simp [Au,C.ren]
def XC (x:Xh):A0:=.g [.t 2 (Aw x.1),.t 1 (Az x.2.1),.v (.bool x.2.2)]
set_option maxHeartbeats 8000000 in
theorem TK (R:List (List Ar)) (m:Int) (B:List Bool) (S:List (List Nat)) (X:List Nat) (hv:C7 R=true) (hn:R.length<=7) (hr:∀ r∈R,r.length<=10000) (hB:DvL R B) (hS:StI R S) (hX:ClS R X) (seen:List Int) (rd:Int) (hs:seen.length=R.length) (hb:∀ x∈seen,x<=rd) (h0:0<=rd) (h1:rd<=10000000):
  FC Tryz.prog 81 [.a (.c (.p 0 0)),.a (.c (.t 1 (Ac (X.map Int.ofNat))))] [.r (Xx R m B S),Wy R 2 rd,.r ⟨3,1,true,A9 seen⟩,.m (Xv S 0)] (fun r o=>∃ (seen':List Int) (rd':Int),seen'.length=R.length/\(∀ x∈seen',x<=rd')/\0<=rd'/\rd'<=rd+3000/\o=[.r (Xx R m B (Xn R m X S).2),Wy R 2 rd',.r ⟨3,1,true,A9 seen'⟩,.m (Xv (Xn R m X S).2 0),.r ⟨35,3,false,Xp (Xn R m X S).1⟩]/\r=.tup [XC (Xn R m X S).1,.c (.v (.int .i64 0))]):=by
 refine A7 Tryz.func81 rfl (by rw [Tryz.ntmps81];simp) ?_
 rw [Tryz.ntmps81]
 have hlo:BZ R=true:=gEg (gE4 hv).1
 have hbd:=(gE4 hlo).2.2.2
 have hXn:=hX.len
 have hXlt:=hX.lt
 have hBX:∀ s∈X,s<B.length:=fun s h=>by rw [hB.1];exact hXlt s h
 have hdv:=Ql hB hXlt
 obtain ⟨M,hM⟩:=C1 S 0
 rw [hM]
 simp only [B4,Wy,Xx]
 (refine VV ?_;(repeat clear hK K);unhygienic intros)
 (refine Aj rfl ?_;intro K1 hK1;refine Ax (ids:=[]) [4,0,1,2,3] (S4 R m B S rd seen M X hBX (by omega)) rfl rfl (by simp only [go_sem]) (by first | assumption | kernel_rfl) rfl rfl (by (simp only [gAT,gAk,go_sem]) <;> rfl) (by (simp only [Vk,A5,gAW,gAb,Wy,Fx,go_sem]) <;> rfl) ?_ ?_)
 ·rintro _ _ ⟨rfl,rfl⟩;rfl
 rintro _ _ ⟨rfl,rfl⟩
 (simp only [Ap,AC,Fx,Wy,AL,gAW,gAb,Ys,go_sem];refine hK1 _ ?_;clear hK1 K1)
 rw [hdv]
 clear hdv
 have hev:=NB (X:=X) (fun r hr a ha=>by have:=hbd r hr a ha;omega) hXlt
 have hwev:=TD R X hlo hXlt (by omega) (by omega) hr rd seen hs
 have hai:=ArI.all hS X (Xf R X)
 by_cases hA:m=3/\Xm R X=true
 ·have hns:Xn R m X S=(([],[],true),S):=by unfold Xn;rw [if_pos hA]
  obtain ⟨rfl,hdx⟩:=hA
  rw [hdx]
  (refine VV ?_;unhygienic intros)
  refine W2 ?_
  (refine VV ?_;(repeat clear hK K);unhygienic intros)
  refine As (MJ 5 [2,1,1] rfl) ?_
  simp only [Wf,We,gBj,gBi]
  ((try refine Ak ?_);(try simp only [Ad,Ay]);refine AB (A8 [0,1,2,3,5] rfl rfl) ?_;(try simp only [Yn,go_sem]);((try refine Ak ?_);(try refine Aa ?_);(try simp only [Ad,Ay]);refine AN (by first | exact .inl rfl | exact .inr rfl) rfl ?_;simp only [Vm,Cq,Ck,Cx,Tryz.results81,go_sem,true_and,and_true,Vp,A5,gAW,gAb,Wy,Xx]))
  refine ⟨seen,rd,hs,hb,h0,by omega,?_,?_⟩
  ·rw [hns,hM];rfl
  rw [hns];rfl
 have hns:Xn R m X S=(((Xl R X (Xf R X) S).1,(if m=1 then [] else D2 (Xg R X)),false),(Xl R X (Xf R X) S).2):=by unfold Xn;rw [if_neg hA]
 have hcd:((m == 3) && Xm R X)=false:=by
  rw [Bool.eq_false_iff]
  intro h
  rw [gA1,beq_iff_eq] at h
  exact hA h
 generalize hLd:Xf R X=L at *
 have hevb:∀ e∈L,0<e:=fun e he=>by
  rw [<- hLd] at he
  obtain ⟨s,hs,a,ha,h0,rfl⟩:=Dm.1 he
  have hl:=hXlt s hs
  rw [gE2,gE1 hl,gBF] at ha
  have:=hbd _ (gE6 hl) a ha
  omega
 have go1:((m == 3)=true/\Xm R X=false)\/((m == 3)=false/\1+1=2):=by
  cases h:(m == 3) with
  | false=>exact .inr ⟨rfl,rfl⟩
  | true=>rw [h,gAa] at hcd;exact .inl ⟨rfl,hcd⟩
 clear hcd hA
 rcases go1 with ⟨d3,dx⟩ | ⟨d3,dx⟩
 all_goals
  (refine VW (an @d3 @dx) ?_;unhygienic intros)
  refine W3 ?_
  (refine VV ?_;(repeat clear hK K);unhygienic intros)
  (refine Aj rfl ?_;intro K1 hK1;refine Ax (ids:=[]) [1,2] (hwev) rfl rfl (by simp only [go_sem]) (by first | assumption | kernel_rfl) rfl rfl (by (simp only [gAT,gAk,go_sem]) <;> rfl) (by (simp only [Vk,A5,Wy,go_sem]) <;> rfl) ?_ ?_)
  ·rintro _ _ ⟨rfl,rfl⟩;rfl
  rintro _ _ ⟨rfl,rfl⟩
  (simp only [Ap,AC,Wy,AL,Ys,go_sem];refine hK1 _ ?_;clear hK1 K1)
  (refine VW @A2 ?_;(repeat clear hK K);unhygienic intros)
  refine As (I6 23 2) ?_
  simp only [gAm,gBc]
  refine As (FU 6 0 7 (by decide) rfl rfl rfl) ?_
  simp only [gBj,gBi]
  refine Ab (fun x:Nat × List Int × Int=>{ tm:=[(1,.a (.c (.t 1 (Ac (X.map Int.ofNat))))),(2,.a (.c (.p 4 0))),(4,.a (.c (.p 5 0))),(6,.a (.c (.p 6 0))),(33,.a (.c (.t 1 (Ac L)))),(34,.i L.length),(35,.i x.1)],hp:=[.r (Xx R m B (Xl R X (L.take x.1) S).2),Wy R 2 x.2.2,.r ⟨3,1,true,A9 x.2.1⟩,.m (Xv (Xl R X (L.take x.1) S).2 0),.r ⟨93,1,false,[.p 0 0]⟩,.r ⟨35,3,false,[.v (.slice none 0 0),.v (.slice none 0 0),.v (.bool false)]⟩,.r ⟨35,3,false,[.s 7 (Xl R X (L.take x.1) S).1.length,.v (.slice none 0 0),.v (.bool false)]⟩,.r ⟨23,2,true,AG (Xl R X (L.take x.1) S).1⟩],n:=110,pin:=4 }) (fun x=>x.1<=L.length/\x.2.1.length=R.length/\(∀ y∈x.2.1,y<=x.2.2)/\0<=x.2.2/\x.2.2<=rd+2*(x.1:Int)) (fun x=>L.length - x.1) (0,seen,rd) ?_ ?_ ?_
  ·exact ⟨by omega,hs,hb,h0,by simp⟩
  ·have hca:AG ([]:List Ar)=[]:=rfl
   simp only [gBq,Xl,gAx,hM,Xx,Wy,gAO,hca]
   exact W5
  ·rintro ⟨i,sn,rd2⟩ ⟨hi,hsn,hsb,hs0,hsr⟩ K hK
   simp only at hi hsn hsb hs0 hsr hK ⊢
   have hai2:=ArI.all hS X (L.take i)
   by_cases hlt:i<L.length
   ·have d1:=Yp hlt
    have hg:=gE1 hlt
    have gL:=Al hg
    have hTk:L.take (i+1)=L.take i++[L[i]]:=gE8 hlt
    have hnx:=KE R X (L.take i) S L[i]
    rw [<- hTk] at hnx
    have hel:(L.take i).length=i:=by rw [gAS];omega
    generalize L[i]=e at *
    generalize Xl R X (L.take i) S=p at *
    obtain ⟨A,T⟩:=p
    simp only [LV] at hai2 hnx ⊢
    have hAl:A.length=i:=by rw [<- hel,<- hai2.ev,gAN]
    have hTl:=hai2.st.len
    have hT7:T.length<=128:=gBv hTl (Nat.pow_le_pow_right (by omega) hn)
    have hTs:∀ y∈T,Xw y:=fun y hy u hu=>by have:=(hai2.st.cl y hy).lt u hu;omega
    have hcx:=ClS.aft (R:=R) X e
    have hxs:Xw (EP R X e):=fun u hu=>by have:=hcx.lt u hu;omega
    have hxl:=hcx.len
    have hwaft:=Pz R X e hlo (by omega) (fun r h=>by have:=hr r h;omega) hXlt (by omega) sn rd2 hsn hsb hs0 (by omega)
    generalize EP R X e=x at *
    have hbn:=fun sn2=>Nv R m B T x hTs hxs (by omega) (by omega) (rd2+1+1) sn2
    obtain ⟨M1,hM1⟩:=C1 T 0
    obtain ⟨M2,hM2⟩:=C1 (Xk T x) 0
    rw [hM1,hM2] at hbn
    rw [hM1]
    simp only [Wy,Xx]
    (refine VW @d1 ?_;unhygienic intros)
    refine W2 ?_
    (refine VW (an @A2 @gL) ?_;unhygienic intros)
    refine YH [4,6] (.m 0 0 0 (.m 2 0 0 (.m 3 1 11 (.m 4 1 10 (.m 5 0 0 (.m 6 0 0 (.m 7 1 10 (.m 8 0 0 (.m 9 0 0 (.m 1 1 14 (.a 10 (.a 11 (.m 12 0 0 (.a 13 (.a 14 (.m 15 0 0 (.a 16 .e))))))))))))))))) ?_
    (refine VX ?_;repeat clear hK K)
    (refine E3 rfl rfl rfl ?_;intro K1 hK1;refine Ch (ids:=[]) [1,2] (hwaft) rfl rfl rfl rfl rfl (by simp only [go_sem]) (by first | assumption | kernel_rfl) rfl rfl (by (simp only [gAT,gAk,go_sem]) <;> rfl) (by (simp only [Vk,Wy,A5,go_sem]) <;> rfl) ?_ ?_)
    ·rintro _ _ ⟨_,_,_,rfl,rfl⟩;rfl
    rintro _ _ ⟨seen2,hse2,hsb2,rfl,rfl⟩
    (simp only [Ap,AC,Wy,AL,gAW,gAb,Ys,go_sem];refine hK1 _ ?_;clear hK1 K1)
    (refine VX ?_;repeat clear hK K)
    (refine E3 rfl rfl rfl ?_;intro K1 hK1;refine Ch (ids:=[]) [0,1,2,3] (hbn seen2) rfl rfl rfl rfl rfl (by simp only [go_sem]) (by first | assumption | kernel_rfl) rfl rfl (by (simp only [gAT,gAk,go_sem]) <;> rfl) (by (simp only [Vk,Wy,Xx,A5,gAW,gAb,go_sem]) <;> rfl) ?_ ?_)
    ·rintro _ _ ⟨rfl,rfl⟩;rfl
    rintro _ _ ⟨rfl,rfl⟩
    (simp only [Ap,AC,Wy,Xx,AL,gAW,gAb,Ys,go_sem];refine hK1 _ ?_;clear hK1 K1)
    (refine VX ?_;repeat clear hK K)
    (refine VL rfl rfl ?_;intro K1 hK1;refine Bl rfl ?_;simp only [go_sem];(first | refine hK1 _ ?_ | refine AE (hK1 _ ?_));clear hK1 K1)
    (refine E3 rfl rfl rfl ?_;intro K1 hK1;refine Cl rfl rfl rfl rfl (by first | rfl | simp only [Ct,gAz,gAy,hne,gAH,gA8,gAa,gA3,gA2]) rfl ?_;simp only [go_sem,Cm,AD,Aq,gBq,gBc,B9];(first | refine hK1 _ ?_ | refine AE (hK1 _ ?_));clear hK1 K1)
    (refine VX ?_;repeat clear hK K)
    (refine VM rfl rfl rfl rfl ?_;intro K1 hK1;refine Bc rfl ?_;simp only [go_sem,ST.put,De,A0.cells];(first | refine hK1 _ ?_ | refine AE (hK1 _ ?_));clear hK1 K1)
    (refine VX ?_;repeat clear hK K)
    (refine VV ?_;(repeat clear hK K);unhygienic intros)
    refine W4 ?_
    refine hK _ (i+1,seen2,rd2+1+1) ⟨by simp only;omega,hse2,hsb2,by simp only;omega,by simp only;omega⟩ (by simp only;omega) ?_
    have htkA:(AG A).take (A.length*2)=AG A:=gE7 (by rw [AD];exact gBu _)
    simp only [hnx,hM2,Wy,Xx,gAI,gAJ,gAO,htkA,B9]
    refine Le.trans (A8 [0,1,2,3,4,5,6,9] rfl rfl) ?_
    simp only [go_sem,A5,Dd,gAW,gAb]
    exact W5
   ·have d1:=Yq hlt
    have hke:L.take i=L:=gE7 (by omega)
    have hns2:Xn R m X S=(((Xl R X L S).1,(if m=1 then [] else D2 (Xg R X)),false),(Xl R X L S).2):=hns
    rw [hke] at hai2 ⊢
    have hrd:rd2<=rd+3000:=by omega
    generalize Xl R X L S=p at *
    obtain ⟨A,T⟩:=p
    simp only at hai2 hns2 ⊢
    have hTl:=hai2.st.len
    have hT7:T.length<=128:=gBv hTl (Nat.pow_le_pow_right (by omega) hn)
    obtain ⟨M1,hM1⟩:=C1 T 0
    rw [hM1]
    simp only [Wy,Xx]
    have d4:decide ((T.length:Int) > 4096)=false:=gBK (by omega)
    (refine VW @d1 ?_;unhygienic intros)
    refine W3 ?_
    (refine VZ ?_;repeat clear hK K)
    (refine VW (an @Ae (an @CQ @d4)) ?_;(repeat clear hK K);unhygienic intros)
    refine W3 ?_
    refine As (AQ (r:=⟨23,2,true,AG A⟩) (ri:=⟨35,3,false,[.s 7 A.length,.v (.slice none 0 0),.v (.bool false)]⟩) (ts:=Aw A) 6 0 7 A.length (by decide) rfl rfl rfl rfl (show 0<2 by omega) (by rw [AD]) (DB _)) ?_
    simp only [go_sem]
    refine As (CI 6 rfl) ?_
    simp only [Vp,gAV,gAX,go_sem]
    by_cases hm1:m=1
    ·have d5:(m == 1)=true:=by simpa using hm1
     (refine VW @d5 ?_;unhygienic intros)
     refine W2 ?_
     (refine VV ?_;(repeat clear hK K);unhygienic intros)
     refine As (MJ 5 [2,1,1] rfl) ?_
     simp only [Wf,We,gBj,gBi]
     ((try refine Ak ?_);(try simp only [Ad,Ay]);refine AB (A8 [0,1,2,3,5] rfl rfl) ?_;(try simp only [Yn,go_sem]);((try refine Ak ?_);(try refine Aa ?_);(try simp only [Ad,Ay]);refine AN (by first | exact .inl rfl | exact .inr rfl) rfl ?_;simp only [Vm,Cq,Ck,Cx,Tryz.results81,go_sem,true_and,and_true,Vp,A5,gAW,gAb,Wy,Xx]))
     refine ⟨sn,rd2,hsn,hsb,hs0,hrd,?_,?_⟩
     ·rw [hns2,hM1,if_pos hm1];rfl
     ·rw [hns2,if_pos hm1];rfl
    ·have d5:(m == 1)=false:=by simpa using hm1
     (refine VW @d5 ?_;unhygienic intros)
     refine W3 ?_
     (refine VW (an @A2 @gAN.{0,0}) ?_;(repeat clear hK K);unhygienic intros)
     refine As (BJ 11 37 1 ?_) ?_
     ·simp only [go_sem]
     have hnc:=fun X2=>Ip (R:=R) (X:=X2) (fun r hr a ha=>by have:=hbd r hr a ha;omega)
     refine Ab (fun k:Nat=>{ tm:=[(2,.a (.c (.p 4 0))),(4,.a (.c (.p 5 0))),(6,.a (.c (.p 6 0))),(10,.a (.c (.m 8))),(11,.a (.c (.s 9 (Xy (Xg R (X.take k))).length))),(70,.a (.c (.t 1 (Ac (X.map Int.ofNat))))),(71,.i X.length),(72,.i k)],hp:=[.r ⟨100,6,false,[.t 1 (AK R),.v (.int .i64 m),.p 1 0,.t 1 (Ws B),.m 3,.o (1,37) (Az (Xu T))]⟩,.r ⟨124,3,false,[.t 1 (AK R),.s 2 R.length,.v (.int .i64 rd2)]⟩,.r ⟨3,1,true,A9 sn⟩,.m (M1.map fun p=>(p.1,C.v p.2)),.r ⟨93,1,false,[.p 0 0]⟩,.r ⟨35,3,false,[.v (.slice none 0 0),.v (.slice none 0 0),.v (.bool false)]⟩,.r ⟨35,3,false,[.t 2 (Aw A),.v (.slice none 0 0),.v (.bool false)]⟩,.d,.m ((Xz (Xy (Xg R (X.take k)))).map fun p=>(p.1,C.v p.2)),.r ⟨37,1,true,Au (Xy (Xg R (X.take k)))⟩],n:=110,pin:=4 }) (fun k=>k<=X.length) (fun k=>X.length - k) 0 ?_ ?_ ?_
     ·omega
     ·have hd0:Xy (Xg R [])=[]:=rfl
      have hcs:Au []=[]:=rfl
      have hkb:Xz []=[]:=rfl
      simp only [gBq,hd0,hcs,hkb,gAX,gAO]
      exact W5
     ·rintro k hk K hK
      by_cases hlk:k<X.length
      ·have d1:decide ((k:Int)<(X.length:Int))=true:=by simpa using hlk
       have gX:(Ac (X.map Int.ofNat))[k]?=some (.v (.int .i64 (X[k]:Nat))):=Al (by rw [gAC,gE1 hlk];rfl)
       have hsl:=hXlt _ (gE6 hlk)
       have hTk:X.take (k+1)=X.take k++[X[k]]:=gE8 hlk
       have hsnc:=KO R (X.take k) X[k]
       have hDo:∀ y∈Xy (Xg R (X.take k)),XA y:=fun y hy x hx=>by
        have:=(hnc _ (fun s hs=>hXlt s (gB8 hs)) y (Hn.1 hy)).2 x hx
        omega
       have hDl:(Xy (Xg R (X.take k))).length<=7:=by
        have h5:=Nz (Xg R (X.take k))
        have h6:=Ei R (X.take k)
        rw [gAS] at h6
        omega
       rw [<- hTk] at hsnc
       generalize Xg R (X.take k)=Q at *
       generalize X[k]=u at *
       have hRu:R.getD u []=R[u]:=by rw [gE2,gE1 hsl];rfl
       have hacc:=Na R u hsl (by omega) (fun r h=>by have:=hr r h;omega)
       rw [TG ((gE4 hv).2 _ (gE6 hsl)) (fun a ha=>(hbd _ (gE6 hsl) a ha).1)] at hacc
       have hao:=NA (r:=R[u]) (fun a ha=>by have:=hbd _ (gE6 hsl) a ha;omega)
       rw [hRu] at hsnc
       generalize Gd R[u]=ac at *
       obtain ⟨a,ok⟩:=ac
       simp only [Ba] at hacc hsnc hao ⊢
       have hal:a.length<=1026:=E7 hao.1 hao.2
       have haS:XA a:=fun x hx=>by have:=hao.2 x hx;omega
       have hkc:=KI a (by omega)
       have hft:=PD haS
       have hds:=PA Q a
       obtain ⟨hf1,hf2⟩:=KP haS (Xy Q) 0 hDo
       have hpl:=TH (Xy Q)
       have hkn:=PC (Xy Q) a
       obtain ⟨D,hD⟩:∃ D,Xy Q=D:=⟨_,rfl⟩
       rw [hD] at hf1 hf2 hpl hkn hds hDl ⊢
       obtain ⟨sb,hsb⟩:∃ b,Dg a=Value.string b:=⟨_,rfl⟩
       rw [hsb] at hkc hft hf1 hf2 hkn
       have htkD:(Au D).take D.length++[C.t 1 (Ac a)]=Au (D++[a]):=by
        rw [gE7 (by simp [Au])];simp [Au]
       (refine VW @d1 ?_;unhygienic intros)
       refine W2 ?_
       (refine VW (an @A2 (an @gX @gAN.{0,0})) ?_;(repeat clear hK K);unhygienic intros)
       refine Yt hacc ?_
       simp only [Ap] at hkc
       cases ok with
       | false=>
        rw [if_neg (by decide),gAk] at hsnc
        (refine VW (an @gA9 @gA8) ?_;unhygienic intros)
        refine W3 ?_
        (refine VV ?_;(repeat clear hK K);unhygienic intros)
        refine W4 ?_
        refine hK _ (k+1) (by omega) (by omega) ?_
        rw [hsnc,hD]
        exact W5
       | true=>
        rw [if_pos rfl] at hsnc
        (refine VV ?_;(repeat clear hK K);unhygienic intros)
        (refine AY rfl rfl (by simp only [go_sem] <;> rfl) ?_;intro K1 hK1;refine (Av (ids:=[]) (hkc) rfl rfl (by simp only [go_sem]) (by kernel_rfl) (by (simp only [gAk,go_sem]) <;> rfl) ?_).stp)
        rintro _ _ ⟨rfl,rfl⟩
        (refine W1 ?_;clear hK1 K1)
        by_cases hm:a∈D
        ·obtain ⟨j,hj⟩:=hf1 hm
         rw [if_pos hm] at hds
         (refine AY rfl rfl (by simp only [go_sem] <;> rfl) ?_;intro K1 hK1;refine BV (id:=8) (kv:=(Xz D).map fun p=>(p.1,C.v p.2)) (zv:=.bool false) Tryz.underlying132 (CJ Tryz.underlying9) rfl rfl rfl (by simp only [go_sem]) rfl hpl (by simp only [go_sem,Ef]) hft hj ?_;simp only [go_sem,Xq];refine hK1 _ ?_;clear hK1 K1)
         (refine VW @gA9 ?_;unhygienic intros)
         refine W3 ?_
         (refine VV ?_;(repeat clear hK K);unhygienic intros)
         refine W4 ?_
         refine hK _ (k+1) (by omega) (by omega) ?_
         rw [hsnc,hds]
         exact W5
        ·have hj:=hf2 hm
         rw [if_neg hm] at hds
         (refine AY rfl rfl (by simp only [go_sem] <;> rfl) ?_;intro K1 hK1;refine BV (id:=8) (kv:=(Xz D).map fun p=>(p.1,C.v p.2)) (zv:=.bool false) Tryz.underlying132 (CJ Tryz.underlying9) rfl rfl rfl (by simp only [go_sem]) rfl hpl (by simp only [go_sem,Ef]) hft hj ?_;simp only [go_sem,Xq];refine hK1 _ ?_;clear hK1 K1)
         (refine VW @gA8 ?_;unhygienic intros)
         refine W2 ?_
         (refine VV ?_;unhygienic intros)
         refine Yt hkc ?_
         (refine Aj rfl ?_;intro K1 hK1;refine F4 (id:=8) (kv:=(Xz D).map fun p=>(p.1,C.v p.2)) (c:=.v (.bool true)) Tryz.underlying132 (CJ Tryz.underlying9) rfl rfl (by simp only [go_sem]) rfl hpl (by simp only [go_sem,Ef]) hft (by simp only [go_sem]) rfl hj ?_;simp only [go_sem];refine hK1 _ ?_;clear hK1 K1)
         have hcl:(Au D).length=D.length:=by simp [Au]
         (refine VW (an @hcl (an @htkD @hkn)) ?_;(repeat clear hK K);unhygienic intros)
         refine W4 ?_
         refine hK _ (k+1) (by omega) (by omega) ?_
         rw [hsnc,hds]
         simp only [htkD,hkn,gAI,gAJ,gAO]
         refine Le.trans (A8 [0,1,2,3,4,5,6,7,8,11] rfl rfl) ?_
         simp only [go_sem,A5,LH,gAW,gAb]
         exact W5
      ·have d1:decide ((k:Int)<(X.length:Int))=false:=by simpa using hlk
       have hke2:X.take k=X:=gE7 (by omega)
       rw [hke2]
       have hno:=hnc X hXlt
       have hNl:=Ei R X
       have hDl:(Xy (Xg R X)).length<=7:=by have:=Nz (Xg R X);omega
       have hDb:∀ y∈Xy (Xg R X),y.length<=100000000:=fun y hy=>by
        have h5:=hno y (Hn.1 hy)
        have:=E7 h5.1 h5.2
        omega
       have hmr:D2 (Xy (Xg R X))=D2 (Xg R X):=PB (fun y hy=>(hno y (Hn.1 hy)).1) (fun y=>Hn)
       have hml:=Es (Xy (Xg R X))
       have hmn:=KM (Xy (Xg R X)) (by omega) hDb
       rw [hmr] at hmn hml
       generalize D2 (Xg R X)=Y at *
       generalize Xy (Xg R X)=D at *
       have d6:decide ((Y.length:Int) > 1024)=false:=gBK (by omega)
       have htkD:(Az D).take D.length=Az D:=gE7 (by rw [Ae];exact gBu _)
       simp only [AC] at hmn
       (refine VW @d1 ?_;unhygienic intros)
       refine W3 ?_
       (refine VZ ?_;repeat clear hK K)
       (refine VV ?_;unhygienic intros)
       (refine Bw (B6 (r:=⟨37,1,true,Au D⟩) 9 (Az D) rfl (D0 D) (show 0<(1:Nat) by omega)) ?_;simp only [ST.frz,A0.frz,AV.frz,C.frz,gBu,gBj,gBi,go_sem,Ae,htkD])
       (refine VV ?_;unhygienic intros)
       refine Yt hmn ?_
       (refine Cu (an @Ae @d6) ?_;unhygienic intros)
       refine W3 ?_
       (refine SU ?_;(repeat clear hK K);unhygienic intros)
       ((try refine Ak ?_);(try simp only [Ad,Ay]);refine AB (A8 [0,1,2,3,5] rfl rfl) ?_;(try simp only [Yn,go_sem]);((try refine Ak ?_);(try refine Aa ?_);(try simp only [Ad,Ay]);refine AN (by first | exact .inl rfl | exact .inr rfl) rfl ?_;simp only [Vm,Cq,Ck,Cx,Tryz.results81,go_sem,true_and,and_true,Vp,A5,gAW,gAb,Wy,Xx]))
       refine ⟨sn,rd2,hsn,hsb,hs0,hrd,?_,?_⟩
       ·rw [hns2,hM1,if_neg hm1];rfl
       ·rw [hns2,if_neg hm1];rfl
theorem PE {s:ST} (i j n:Nat) {ri:Row} {k:Nat × Nat} {cs:List Tr} (hi:s.hp[i]?=some (.r ri)) (hj:ri.cells[j]?=some (.o k cs)) (hn:cs.length=n*k.1) (hk:0<k.1):
  Le s { s with hp:=s.hp.set i (Ob.r { ri with cells:=ri.cells.set j (.s s.hp.length n) })++[Ob.r ⟨k.2,k.1,true,cs.map C.ofTr⟩] }:=by
 rintro M0 w0 a w ⟨g,hpp,hR⟩
 have hr:=hR.hr
 have hlt:i<s.hp.length:=(List.getElem?_eq_some_iff.1 hi).1
 have hjl:j<ri.cells.length:=(List.getElem?_eq_some_iff.1 hj).1
 have self:(s.hp.set i (Ob.r { ri with cells:=ri.cells.set j (.s s.hp.length n) })++[Ob.r ⟨k.2,k.1,true,cs.map C.ofTr⟩])[i]?=some (.r { ri with cells:=ri.cells.set j (.s s.hp.length n) }):=by
  rw [gEa (by simpa using hlt)];simp [hlt]
 have newr:(s.hp.set i (Ob.r { ri with cells:=ri.cells.set j (.s s.hp.length n) })++[Ob.r ⟨k.2,k.1,true,cs.map C.ofTr⟩])[s.hp.length]?=some (.r ⟨k.2,k.1,true,cs.map C.ofTr⟩):=by
  rw [gEb (by simp)];simp
 have other:∀ q,q ≠ i->q ≠ s.hp.length->(s.hp.set i (Ob.r { ri with cells:=ri.cells.set j (.s s.hp.length n) })++[Ob.r ⟨k.2,k.1,true,cs.map C.ofTr⟩])[q]?=s.hp[q]?:=fun q h1 h2=>by
  rcases gBx q s.hp.length with h | h
  ·rw [gEa (by simpa using h),gE5 (Ne.symm h1)]
  rw [gAB (by simp;omega),gAB h]
 have hlen:(s.hp.set i (Ob.r { ri with cells:=ri.cells.set j (.s s.hp.length n) })++[Ob.r ⟨k.2,k.1,true,cs.map C.ofTr⟩]).length=s.hp.length+1:=by simp
 have hid:i ≠ s.hp.length:=by omega
 have cel:∀ q c,(ri.cells.set j (.s s.hp.length n))[q]?=some c->(q=j/\c=.s s.hp.length n)\/(q ≠ j/\ri.cells[q]?=some c):=by
  intro q c hq
  by_cases e:q=j
  ·subst e;rw [gEc hjl] at hq;cases hq;exact .inl ⟨rfl,rfl⟩
  rw [gE5 (Ne.symm e)] at hq;exact .inr ⟨e,hq⟩
 have noo:∀ (t:Tr) (k:Nat × Nat) (cs:List Tr),C.ofTr t ≠ .o k cs:=fun t k cs=>by cases t <;> simp [C.ofTr]
 obtain ⟨cap,hcap⟩:∃ cap,(cs=[]/\cap=0\/cs ≠ []/\cap ≠ 0)/\∃ u,(∀ arr:Array Value,w.heap[g.γ (.ob i)]?=some (.cells arr ri.e (0,0))->arr[j]?=some u)/\n<=cap/\(∃ A,u=.slice A n cap/\(cap ≠ 0->A=some ⟨g.γ (.cl i j),0,none⟩)/\∀ a,A=some a->a.block<w.heap.size)/\
   (cap ≠ 0->cap<=9223372036854775807/\∃ arr2:Array Value,w.heap[g.γ (.cl i j)]?=some (.cells arr2 k.2 (0,0))/\arr2.size=cap*k.1/\∀ (q:Nat) (t:Tr),cs[q]?=some t->∃ v,arr2[q]?=some v/\Rd (Ow s.hp g) w t v):=by
  rcases hr.row i ri hi with ⟨_,k2⟩ | ⟨k1,k2,arr,k3,k4,k5,k6,k7⟩
  ·rw [k2] at hj;simp at hj
  obtain ⟨u,u1,u2⟩:=k7 j _ hj
  have hu:∀ arr2:Array Value,w.heap[g.γ (.ob i)]?=some (.cells arr2 ri.e (0,0))->arr2[j]?=some u:=fun arr2 h2=>by
   rw [k3] at h2;cases h2;exact u1
  rcases u2 with ⟨h1,A,h2,h3⟩ | ⟨h1,n2,c,arr2,h2,h3,h4,h5,h6,h7,h8⟩
  ·have hn0:n=0:=by
    rw [h1] at hn
    rcases gBs n with h | h
    ·exact h
    ·have:=Nat.mul_pos h hk;simp at hn;omega
   exact ⟨0,.inl ⟨h1,rfl⟩,u,hu,by omega,⟨A,by rw [h2,hn0],fun h=>absurd rfl h,h3⟩,fun h=>absurd rfl h⟩
  ·have hn2:n2=n:=Nat.eq_of_mul_eq_mul_right hk (h3.symm.trans hn)
   subst hn2
   have hb:g.γ (.cl i j)<w.heap.size:=(Array.getElem?_eq_some_iff.1 h6).1
   have hc0:c ≠ 0:=by
    intro h0
    have:n2=0:=by omega
    rw [this] at h3
    exact h1 (gAL.1 (by simpa using h3))
   exact ⟨c,.inr ⟨h1,hc0⟩,u,hu,h4,⟨_,h2,fun _=>rfl,fun a ha=>by cases ha;exact hb⟩,fun _=>⟨h5,arr2,h6,h7,h8⟩⟩
 obtain ⟨hcc,u,hu,hnc,⟨A,hA1,hA2,hA3⟩,hown⟩:=hcap
 generalize hh:s.hp.set i (Ob.r { ri with cells:=ri.cells.set j (.s s.hp.length n) })++[Ob.r ⟨k.2,k.1,true,cs.map C.ofTr⟩]=hp' at *
 let g':Gh:=⟨fun ℓ=>if ℓ=.ob s.hp.length then g.γ (.cl i j) else g.γ ℓ,fun q=>if q=s.hp.length then cap else g.κ q,g.M⟩
 have gs:g'.γ (.ob s.hp.length)=g.γ (.cl i j):=if_pos rfl
 have gn:∀ ℓ,ℓ ≠ .ob s.hp.length->g'.γ ℓ=g.γ ℓ:=fun ℓ h=>if_neg h
 have ks:g'.κ s.hp.length=cap:=if_pos rfl
 have kn:∀ q,q ≠ s.hp.length->g'.κ q=g.κ q:=fun q h=>if_neg h
 have src:∀ ℓ,Lv hp' g' ℓ->(ℓ=.ob s.hp.length/\Lv s.hp g (.cl i j))\/(ℓ ≠ .ob s.hp.length/\ℓ ≠ .cl i j/\Lv s.hp g ℓ):=by
  intro ℓ hl
  cases ℓ with
  | ob q=>
   by_cases hq:q=s.hp.length
   ·subst hq
    refine .inl ⟨rfl,ri,k,cs,hi,hj,?_⟩
    rcases hl with ⟨r2,_,e2⟩ | ⟨kv,e1⟩
    rotate_left
    ·rw [newr] at e1;cases e1
    rw [ks] at e2
    rcases hcc with ⟨_,h0⟩ | ⟨h0,_⟩
    ·exact absurd h0 e2
    exact h0
   refine .inr ⟨by simpa using hq,by simp,?_⟩
   by_cases hqi:q=i
   ·subst hqi
    rcases hl with ⟨r2,_,e2⟩ | ⟨kv,e1⟩
    ·exact .inl ⟨ri,hi,by rw [kn _ hq] at e2;exact e2⟩
    rw [self] at e1;cases e1
   rcases hl with ⟨r2,e1,e2⟩ | ⟨kv,e1⟩
   ·exact .inl ⟨r2,by rw [<- other q hqi hq];exact e1,by rw [kn _ hq] at e2;exact e2⟩
   exact .inr ⟨kv,by rw [<- other q hqi hq];exact e1⟩
  | cl q j2=>
   obtain ⟨r2,k2,cs2,e1,e2,e3⟩:=hl
   by_cases hq:q=s.hp.length
   ·subst hq
    rw [newr] at e1
    cases e1
    simp only [gAC,gBG] at e2
    obtain ⟨t,_,ht⟩:=e2
    exact absurd ht (noo _ _ _)
   by_cases hqi:q=i
   rotate_left
   ·exact .inr ⟨by simp,by simp [hqi],r2,k2,cs2,by rw [<- other q hqi hq];exact e1,e2,e3⟩
   subst hqi
   rw [self] at e1
   cases e1
   rcases cel j2 _ e2 with ⟨_,h⟩ | ⟨h0,h⟩
   ·cases h
   exact .inr ⟨by simp,by simp [h0],ri,k2,cs2,hi,h,e3⟩
 have ow:∀ b,Ow hp' g' b->Ow s.hp g b:=by
  rintro b (ho | ⟨ℓ,hl,e⟩)
  ·exact .inl ho
  rcases src ℓ hl with ⟨rfl,h1⟩ | ⟨h0,_,h1⟩
  ·rw [gs] at e;exact .inr ⟨_,h1,e⟩
  rw [gn _ h0] at e;exact .inr ⟨_,h1,e⟩
 have nbn:∀ q,Bn s.hp q->q ≠ s.hp.length:=fun q ⟨o,h,_⟩ e=>by subst e;simp at h
 have hm:Mo g s.hp w g' hp' w (fun _=>True):=by
  refine ⟨fun q hq=>⟨?_,gn _ (by simpa using nbn q hq),kn _ (nbn q hq)⟩,fun b _ ho=>ow b ho,gBu _,fun _ _ _=>rfl,fun q _ hq r2 j2 k2 cs2 e1 e2=>?_⟩
  ·by_cases e:q=i
   ·subst e;exact ⟨_,self,rfl⟩
   have hn:=nbn q hq
   obtain ⟨o,h1,h2⟩:=hq
   exact ⟨o,by rw [other q e hn];exact h1,h2⟩
  have hn:=nbn q hq
  by_cases e:q=i
  rotate_left
  ·exact ⟨r2,by rw [<- other q e hn];exact e1,e2,fun _=>rfl⟩
  subst e
  rw [self] at e1
  cases e1
  rcases cel j2 _ e2 with ⟨_,h⟩ | ⟨_,h⟩
  ·cases h
  exact ⟨ri,hi,h,fun _=>rfl⟩
 refine ⟨g',⟨by show s.pin<=hp'.length;have:=hpp.1;omega,hpp.2.trans ⟨rfl,fun q hq=>?_⟩⟩,hR.mo hm ?_ (fun ℓ hl=>?_) hR.fp⟩
 rotate_left 2
 ·rcases src ℓ hl with ⟨rfl,h1⟩ | ⟨h0,_,h1⟩
  ·rw [gs];exact hR.new _ h1
  rw [gn _ h0];exact hR.new _ h1
 ·have:q ≠ s.hp.length:=by have:=hpp.1;omega
  exact ⟨gn _ (by simpa using this),kn _ this⟩
 refine ⟨hr.ml,fun ℓ hl=>?_,fun ℓ ℓ' h1 h2 he=>?_,fun q r2 e1=>?_,fun q kv e1=>?_,hm.gl hr.gl⟩
 rotate_left 3
 ·by_cases hq:q=s.hp.length
  ·subst hq;rw [newr] at e1;cases e1
  by_cases e:q=i
  ·subst e;rw [self] at e1;cases e1
  rw [other q e hq] at e1
  exact MpR.mo hm e1 (hr.mp q kv e1) rfl
 ·rcases src ℓ hl with ⟨rfl,h1⟩ | ⟨h0,_,h1⟩
  ·rw [gs];exact hr.md _ h1
  rw [gn _ h0];exact hr.md _ h1
 ·rcases src ℓ h1 with ⟨rfl,a1⟩ | ⟨a0,a2,a1⟩ <;> rcases src ℓ' h2 with ⟨rfl,b1⟩ | ⟨b0,b2,b1⟩
  rotate_left 2
  ·rw [gs,gn _ a0] at he
   exact absurd (hr.inj _ _ a1 b1 he) a2
  ·rw [gn _ a0,gn _ b0] at he
   exact hr.inj _ _ a1 b1 he
  ·rfl
  rw [gs,gn _ b0] at he
  exact absurd (hr.inj _ _ a1 b1 he).symm b2
 by_cases hq:q=s.hp.length
 ·subst hq
  rw [newr] at e1
  cases e1
  rcases hcc with ⟨h0,h1⟩ | ⟨h0,h1⟩
  ·exact .inl ⟨by rw [ks,h1],by rw [h0];rfl⟩
  obtain ⟨m1,arr2,m2,m3,m4⟩:=hown h1
  refine .inr ⟨by rw [ks];exact h1,fun _ h=>h0 (by simpa using h),arr2,by rw [gs];exact m2,?_,by rw [ks];exact m3,by rw [ks];exact m1,fun q c hq=>?_⟩
  ·simp only [gAN];rw [hn,m3];exact gBA _ hnc
  simp only [gAC,gBG] at hq
  obtain ⟨t,ht,rfl⟩:=hq
  obtain ⟨v,v1,v2⟩:=m4 q t ht
  refine ⟨v,v1,?_⟩
  have h3:CR g' hp' w (C.ofTr t) v:=Ec (hm.rd v2)
  cases t with
  | v x=>exact h3
  | l k2 cs2=>exact h3
 by_cases e:q=i
 rotate_left
 ·rw [other q e hq] at e1
  exact RowR.mo hm e1 (hr.row q r2 e1) (fun _=>rfl) (fun _ _ _ _ _=>⟨gn _ (by simp),rfl⟩)
 subst e
 rw [self] at e1
 cases e1
 rcases hr.row q ri hi with ⟨k1,k2⟩ | ⟨k1,k2,arr,k3,k4,k5,k6,k7⟩
 ·rw [k2] at hj;simp at hj
 refine .inr ⟨by rw [kn _ hq];exact k1,fun h1 h2=>k2 h1 (gAL.1 (by rw [<- gAQ (i:=j) (a:=C.s s.hp.length n)];exact gAL.2 h2)),arr,by rw [gn _ (by simpa using hq)];exact k3,by simpa using k4,by rw [kn _ hq];exact k5,by rw [kn _ hq];exact k6,fun j2 c hj2=>?_⟩
 rcases cel j2 c hj2 with ⟨rfl,rfl⟩ | ⟨hne,h⟩
 rotate_left
 ·obtain ⟨v,v1,v2⟩:=k7 j2 c h
  exact ⟨v,v1,CellR.mo hm v2 (fun k3 cs3 hc _=>⟨gn _ (by simp),rfl⟩)⟩
 refine ⟨u,hu arr k3,?_⟩
 exact ⟨⟨_,newr,rfl⟩,by rw [ks];exact hnc,A,by rw [ks];exact hA1,fun h=>by rw [gs];exact hA2 (by rw [ks] at h;exact h),hA3⟩
end Go.Proofs.YtbnabodoabimnaaGreat
