/- Lemmas. -/
import Derived.Test.YtbnabodoabimnaaGreatZk
import Derived.Test.YtbnabodoabimnaaGreatNp7
import Derived.Test.YtbnabodoabimnaaGreatMlz
import Derived.Test.YtbnabodoabimnaaGreatG37
import Derived.Test.YtbnabodoabimnaaGreatG11
namespace Go.Proofs.YtbnabodoabimnaaGreat
set_option linter.unusedVariables false
set_option linter.unusedSimpArgs false
open Go.RowKit
set_option maxRecDepth 100000
attribute [local go_sem] lga C.pl C.one
def Yc {α:Type} (a b:List α) (k:Nat):List α:=a.take k++b.drop k
theorem Hv {α:Type} (a b:List α):Yc a b 0=b:=by simp [Yc]
theorem JA {α:Type} {a b:List α} (h:b.length=a.length):Yc a b a.length=a:=by
 unfold Yc
 rw [gE7 (gBu _),List.drop_of_length_le (by omega),gAk]
theorem JB {α:Type} {a b:List α} (h:b.length=a.length) (k:Nat) (hk:k<=a.length):(Yc a b k).length=a.length:=by simp [Yc,h];omega
theorem JC {α:Type} {a b:List α} (h:b.length=a.length) {k:Nat} (hk:k<a.length):(Yc a b k).set k a[k]=Yc a b (k+1):=by
 unfold Yc
 have hl:(a.take k).length=k:=by rw [gAS];omega
 rw [gAp (l:=b) (by omega),gBh _ _ (by rw [hl];exact gBu _),hl,gBC,gBj,gE8 hk,gAj]
 rfl
theorem L3 (ky:List Value) (f:Nat->Nat):(Y0 ky).map (C.up f)=Y0 ky:=by simp [Y0,C.up,gAb]
theorem SB (N:List Xh) (c:List Int):(Y1 N c).length=N.length:=by simp [Y1]
theorem PU (c:Int) (A:List Ar) (cl:List Int) (hA:A.length<=1000000) (hcl:cl.length<=1000000) (hb:∀ a∈A,0<=a.2/\a.2<(cl.length:Int)):FC Tryz.prog 119 [.i c,.a (.c (.t 2 (Aw A))),.a (.c (.s 0 cl.length))] [Be cl] (fun r o=>o=[Be cl]/\r=.a (.c (.v (Dg (c :: XV A cl))))):=by
 refine FC.inS (So c A cl hA hcl hb) (fun k cs j hj=>?_) fun g w vals hr ⟨hl,ha⟩=>⟨hl,fun i x hx=>?_⟩
 ·obtain ⟨x,_,hx⟩:=gB7.1 (gE9 hj)
  cases hx
 have how:∀ b,Ow [] g b->Ow [Be cl] g b:=fun b ho=>by
  rcases ho with ho | ⟨ℓ,hl,_⟩
  ·exact .inl ho
  exfalso
  cases ℓ with
  | ob id=>rcases hl with ⟨r,h,_⟩ | ⟨kv,h⟩ <;> simp at h
  | cl id j=>obtain ⟨r,k,cs,h,_⟩:=hl;simp at h
 match i,hx with
 | 0,hx=>
  cases hx
  obtain ⟨v,h1,h2⟩:=ha 0 _ rfl
  exact ⟨v,h1,h2⟩
 | 1,hx=>
  cases hx
  obtain ⟨v,h1,h2⟩:=ha 1 _ rfl
  exact ⟨v,h1,Rd.mono h2 fun _ _ ho=>how _ ho⟩
 | 2,hx=>
  cases hx
  obtain ⟨v,h1,h2⟩:=ha 2 _ rfl
  exact ⟨v,h1,U4 hr h2⟩
 | i+3,hx=>simp at hx
set_option maxHeartbeats 4000000 in
theorem SC (N:List Xh) (hv:NvB N):FC Tryz.prog 82 [aN N] [] (fun r o=>∃ p,ClN N p/\o=[Be p.1]/\r=.tup [.c (.s 0 N.length),.c (.v (.int .i64 p.2))]):=by
 have hN:=hv.2.1
 have hx:∀ x∈N,x.1.length<=10000/\x.2.1.length<=2000/\∀ s∈x.2.1,s.length<=2000:=fun x h=>by
  obtain ⟨_,h2,_,h4,h5⟩:=hv.2.2 x h
  exact ⟨by omega,by omega,fun s hs=>by have:=(h5 s hs).1;omega⟩
 have hky0:SX ((N.map XX).map Dg) (fun s=>(N.map XX).getD s []):=Qv _ fun y hy=>by
  obtain ⟨x,h,rfl⟩:=gB7.1 hy
  obtain ⟨_,h2,h3,h4,h5⟩:=hv.2.2 x h
  exact TT (fun a ha=>by have:=h3 a ha;omega) (by omega) fun s hs=>⟨by have:=(h5 s hs).1;omega,(h5 s hs).2⟩
 refine A7 Tryz.func82 rfl (by rw [Tryz.ntmps82];simp) ?_
 rw [Tryz.ntmps82]
 simp only [B4,aN]
 (refine VW (an @Bz @Cw) ?_;(repeat clear hK K);unhygienic intros)
 obtain ⟨k0,hk0⟩:∃ k0,k0=N.map fun x=>Dg (XX x):=⟨_,rfl⟩
 obtain ⟨kz,hkz⟩:∃ kz,kz=List.replicate N.length (Value.string ⟨#[]⟩):=⟨_,rfl⟩
 have hl0:k0.length=N.length:=by rw [hk0,gAN]
 have hlz:kz.length=k0.length:=by rw [hkz,gAP,hl0]
 refine Ab (fun k:Nat=>{ tm:=[(0,.a (.c (.t 3 (tN N)))),(4,.a (.c (.s 0 N.length))),(16,.a (.c (.t 3 (tN N)))),(17,.i N.length),(18,.i k)],hp:=[.r ⟨9,1,true,Y0 (Yc k0 kz k)⟩],n:=65,pin:=0 }) (fun k=>k<=N.length) (fun k=>N.length - k) 0 ?_ ?_ ?_
 ·omega
 ·have hz:Y0 kz=List.replicate N.length (C.v (.string ⟨#[]⟩)):=by rw [hkz];simp [Y0]
  rw [Hv,hz]
  exact W5
 rintro k hk K hK
 by_cases hlt:k<N.length
 ·have d1:=Yp hlt
  have hat:=LF hlt
  have hb:=hx _ (gE6 hlt)
  have hks:=JC hlz (k:=k) (by omega)
  have hkv:k0[k]'(by omega)=Dg (XX N[k]):=by simp [hk0]
  rw [hkv] at hks
  have hml:=JB hlz k (by omega)
  rw [hl0] at hml
  generalize N[k]=x at *
  obtain ⟨A,V,dv⟩:=x
  simp only [Xo] at hat hb
  have hfi:=NT A V dv hb.1 hb.2.1 hb.2.2
  have hcl:(Y0 (Yc k0 kz k)).length=N.length:=by rw [G9,hml]
  generalize Yc k0 kz k=Q at *
  obtain ⟨sb,hsb⟩:∃ b,Dg (XX (A,V,dv))=Value.string b:=⟨_,rfl⟩
  rw [hsb] at hfi hks
  (refine VW @d1 ?_;unhygienic intros)
  refine W2 ?_
  (refine Cu (an @hat (an @Bz @Cw)) ?_;unhygienic intros)
  refine Yt hfi ?_
  (refine Cu (an @hcl (an @NV @hks)) ?_;(repeat clear hK K);unhygienic intros)
  refine W4 ?_
  refine hK _ (k+1) (by omega) (by omega) ?_
  refine Le.trans (A8 [0] rfl rfl) ?_
  simp only [go_sem,Co]
  exact W5
 have d1:=Yq hlt
 have hkl:k=k0.length:=by omega
 rw [hkl,JA hlz]
 rw [gAW,show (Dg ∘ XX)=(fun x=>Dg (XX x)) from rfl,<- hk0] at hky0
 have hpa:=NW k0 _ hky0 (by omega)
 rw [hl0,show WE (fun s=>(N.map XX).getD s []) N.length=Y3 N 0 from rfl] at hpa
 rw [hkl,hl0] at d1
 rw [hl0]
 have hkI:∀ j,∃ g:Nat->List Int,WE g N.length=Y3 N j:=fun j=>by cases j <;> exact ⟨_,rfl⟩
 (refine VW @d1 ?_;unhygienic intros)
 refine W3 ?_
 (refine VZ ?_;repeat clear hK K)
 (refine VV ?_;(repeat clear hK K);unhygienic intros)
 (refine Aj rfl ?_;intro K1 hK1;refine Ax (ids:=[]) [0] (hpa) rfl rfl (by simp only [go_sem]) (by first | assumption | kernel_rfl) rfl rfl (by (simp only [gAT,gAk,go_sem]) <;> rfl) (by (simp only [Vk,Co,go_sem]) <;> rfl) ?_ ?_)
 ·rintro _ _ ⟨rfl,rfl⟩;rfl
 rintro _ _ ⟨rfl,rfl⟩
 (simp only [Ap,AC,Be,Co,L3,AL,Ys,go_sem];refine hK1 _ ?_;clear hK1 K1)
 (refine VV ?_;(repeat clear hK K);unhygienic intros)
 refine Ab (fun x:Nat × List Value=>{ tm:=[(0,.a (.c (.t 3 (tN N)))),(4,.a (.c (.s 0 N.length))),(7,.a (.c (.s 1 N.length))),(8,.i (Y3 N x.1).2)],hp:=[.r ⟨9,1,true,Y0 x.2⟩,Be (Y3 N x.1).1],n:=65,pin:=0 }) (fun x=>x.2.length=N.length) (fun x=>N.length - (Y3 N x.1).2) (0,k0) ?_ ?_ ?_
 ·exact hl0
 ·simp only [Be]
  exact W5
 rintro ⟨j,Q0⟩ hQ0 K hK
 simp only at hQ0 hK ⊢
 have hst:=PM N j
 obtain ⟨g,hg⟩:=hkI j
 have hok:=BK g N.length
 rw [hg] at hok
 obtain ⟨g1,hg1⟩:=hkI (j+1)
 have hok1:=BK g1 N.length
 rw [hg1] at hok1
 obtain ⟨c,hc⟩:∃ c,c=(Y3 N j).1:=⟨_,rfl⟩
 obtain ⟨n0,hn0⟩:∃ c,c=(Y3 N j).2:=⟨_,rfl⟩
 have hcn:c.length=N.length:=by rw [hc];exact hok.len
 have hcr:∀ x∈c,0<=x/\x<2147483648:=fun x hx=>by
  obtain ⟨s,hs,rfl⟩:=gAG hx
  have h1:=hok.rng s (by omega)
  have h2:=hok.cnt
  rw [<- hc,gE2,gE1 hs,gBF] at h1
  omega
 obtain ⟨k1,hk1⟩:∃ k1,k1=(Y1 N c).map Dg:=⟨_,rfl⟩
 have hl1:k1.length=N.length:=by rw [hk1,gAN,SB]
 have hQl:Q0.length=k1.length:=by rw [hl1,hQ0]
 have hky1:SX k1 (fun s=>(Y1 N c).getD s []):=by
  rw [hk1]
  refine Qv _ fun y hy=>?_
  obtain ⟨s,hs,rfl⟩:=gB7.1 hy
  have hs:=gBa.1 hs
  have h3:=(hv.2.2 _ (hv.at hs)).2.2.1
  refine TS ?_ (fun a ha=>by have:=h3 a ha;omega) hcr
  have h1:=hok.rng s hs
  have h2:=hok.cnt
  rw [<- hc] at h1
  omega
 have hpb:=NW k1 _ hky1 (by omega)
 rw [hl1,show WE (fun s=>(Y1 N c).getD s []) N.length=Y3 N (j+1) from by rw [hc];rfl] at hpb
 rw [<- hc,<- hn0]
 simp only [Be]
 have hKo:=hK
 (refine VW (an @Bz @Cw) ?_;(repeat clear hK K);unhygienic intros)
 refine Ab (fun k:Nat=>{ tm:=[(0,.a (.c (.t 3 (tN N)))),(4,.a (.c (.s 0 N.length))),(7,.a (.c (.s 1 N.length))),(8,.i n0),(34,.a (.c (.t 3 (tN N)))),(35,.i N.length),(36,.i k)],hp:=[.r ⟨9,1,true,Y0 (Yc k1 Q0 k)⟩,Be c],n:=65,pin:=0 }) (fun k=>k<=N.length) (fun k=>N.length - k) 0 ?_ ?_ ?_
 ·omega
 ·rw [Hv]
  simp only [Be]
  exact W5
 rintro k hk K hK
 by_cases hlt:k<N.length
 ·have d2:=Yp hlt
  have hat:=LF hlt
  have hb:=hx _ (gE6 hlt)
  have hb2:=(hv.2.2 _ (gE6 hlt)).2.2.1
  have hks:=JC hQl (k:=k) (by omega)
  have hkv:k1[k]'(by omega)=Dg (c.getD k 0 :: XV N[k].1 c):=by
   simp only [hk1,List.getElem_map]
   congr 1
   simp [Y1,gE2,hlt]
  rw [hkv] at hks
  have hml:=JB hQl k (by omega)
  rw [hl1] at hml
  have gc:=At (gE1 (show k<c.length by omega))
  have hgd:c.getD k 0=c[k]'(by omega):=by rw [gE2,gE1 (by omega)];rfl
  rw [hgd] at hks
  generalize c[k]'(by omega)=z at *
  generalize N[k]=x at *
  obtain ⟨A,V,dv⟩:=x
  simp only [Xo] at hat hb hb2
  have hke:=PU z A c (by omega) (by omega) (fun a ha=>by have:=hb2 a ha;omega)
  rw [hcn] at hke
  have hcl:(Y0 (Yc k1 Q0 k)).length=N.length:=by rw [G9,hml]
  have hci:(A9 c).length=N.length:=by rw [A4,hcn]
  simp only at hks
  generalize Yc k1 Q0 k=Q at *
  obtain ⟨sb,hsb⟩:∃ b,Dg (z :: XV A c)=Value.string b:=⟨_,rfl⟩
  rw [hsb] at hke hks
  simp only [Be] at hke ⊢
  (refine VW @d2 ?_;unhygienic intros)
  refine W2 ?_
  (refine Cu (an @hat (an @Bz @Cw)) ?_;unhygienic intros)
  refine Yr 9 [(0,0),(1,0),(2,0),(3,0),(4,0),(5,1),(6,0),(7,1),(8,0),(9,2),(10,0),(11,2)] ?_
  (refine SS (an @gc @hci) ?_;repeat clear hK K)
  (refine Vt rfl rfl rfl ?_;intro K1 hK1;refine Ax (ids:=[]) [1] (hke) rfl rfl (by simp only [go_sem]) (by first | assumption | kernel_rfl) rfl rfl (by (simp only [gAT,gAk,go_sem]) <;> rfl) (by (simp only [Vk,A5,go_sem]) <;> rfl) ?_ ?_)
  ·rintro _ _ ⟨rfl,rfl⟩;rfl
  rintro _ _ ⟨rfl,rfl⟩
  (simp only [Ap,AC,L3,AL,Ys,go_sem];refine hK1 _ ?_;clear hK1 K1)
  (refine SS (an @hcl (an @NV @hks)) ?_;repeat clear hK K)
  (refine VV ?_;(repeat clear hK K);unhygienic intros)
  refine W4 ?_
  refine hK _ (k+1) (by omega) (by omega) ?_
  refine Le.trans (A8 [0,1] rfl rfl) ?_
  simp only [go_sem,Co,A5,Be]
  exact W5
 have d2:=Yq hlt
 have hkl:k=k1.length:=by omega
 rw [hkl,JA hQl]
 rw [hkl,hl1] at d2
 rw [hl1]
 simp only [Be]
 obtain ⟨c2,hc2⟩:∃ c,c=(Y3 N (j+1)).1:=⟨_,rfl⟩
 obtain ⟨n2,hn2⟩:∃ c,c=(Y3 N (j+1)).2:=⟨_,rfl⟩
 rw [<- hc2,<- hn2] at hpb
 have hcn2:=hok1.cnt
 rw [<- hn2] at hcn2 hst
 rw [<- hn0] at hst
 by_cases he:n2=n0
 ·have d3:((n2:Int) == (n0:Int))=true:=by rw [he];exact beq_self_eq_true _
  (refine VW @d2 ?_;unhygienic intros)
  refine W3 ?_
  (refine VZ ?_;repeat clear hK K)
  (refine VV ?_;(repeat clear hK K);unhygienic intros)
  (refine Aj rfl ?_;intro K1 hK1;refine Ax (ids:=[]) [0] (hpb) rfl rfl (by simp only [go_sem]) (by first | assumption | kernel_rfl) rfl rfl (by (simp only [gAT,gAk,go_sem]) <;> rfl) (by (simp only [Vk,Co,go_sem]) <;> rfl) ?_ ?_)
  ·rintro _ _ ⟨rfl,rfl⟩;rfl
  rintro _ _ ⟨rfl,rfl⟩
  (simp only [Ap,AC,Be,Co,L3,AL,Ys,go_sem];refine hK1 _ ?_;clear hK1 K1)
  (refine VW @d3 ?_;unhygienic intros)
  refine W2 ?_
  (refine VV ?_;(repeat clear hK K);unhygienic intros)
  refine W7 [1] Tryz.results82 @A5 ?_
  exact ⟨Y3 N j,⟨j,rfl,(hst.2 he.symm).symm⟩,by rw [<- hc],by rw [<- hn0]⟩
 have d3:((n2:Int) == (n0:Int))=false:=by simpa using fun e=>he (by omega)
 (refine VW @d2 ?_;unhygienic intros)
 refine W3 ?_
 (refine VZ ?_;repeat clear hK K)
 (refine VV ?_;(repeat clear hK K);unhygienic intros)
 (refine Aj rfl ?_;intro K1 hK1;refine Ax (ids:=[]) [0] (hpb) rfl rfl (by simp only [go_sem]) (by first | assumption | kernel_rfl) rfl rfl (by (simp only [gAT,gAk,go_sem]) <;> rfl) (by (simp only [Vk,Co,go_sem]) <;> rfl) ?_ ?_)
 ·rintro _ _ ⟨rfl,rfl⟩;rfl
 rintro _ _ ⟨rfl,rfl⟩
 (simp only [Ap,AC,Be,Co,L3,AL,Ys,go_sem];refine hK1 _ ?_;clear hK1 K1)
 (refine VW @d3 ?_;unhygienic intros)
 refine W3 ?_
 (refine VV ?_;(repeat clear hK K);unhygienic intros)
 refine W4 ?_
 refine hKo _ (j+1,k1) hl1 ?_ ?_
 ·simp only [<- hn2,<- hn0]
  have:=hst.1
  omega
 refine Le.trans (A8 [0,2] rfl rfl) ?_
 simp only [go_sem,Co,A5,Be,<- hc2,<- hn2]
 exact W5
def UY (N:List Xh) (m:Int) (r:AV):Prop:=
 (vaP N m/\∃ out cl,MzP N out cl/\r=.tup [.c (.t 3 (tN out)),.c (.t 1 (Ac cl)),.c (.v (.int .i64 0))])
 \/ (¬ vaP N m/\r=.tup [.c (.v (.slice none 0 0)),.c (.v (.slice none 0 0)),.c (.v (.int .i64 1))])
theorem JD {N:List Xh} {p:List Int × Nat} {rows:List (List Ar)} {old:List Int} (h:rows.length<=old.length):(Y6 N p rows old).length=rows.length:=by
 unfold Y6
 rw [List.length_zipWith];omega
theorem O6 {q:List Ar} {k:Nat} (h:k<q.length) (num old:List Int):Bp (q.take (k+1)) num old=((AM (Bp (q.take k) num old).1 (Bp (q.take k) num old).2.1 q[k].2).1,(AM (Bp (q.take k) num old).1 (Bp (q.take k) num old).2.1 q[k].2).2,(Bp (q.take k) num old).2.2++[(q[k].1,(AM (Bp (q.take k) num old).1 (Bp (q.take k) num old).2.1 q[k].2).1.getD q[k].2.toNat 0)]):=by
 rw [gE8 h,NZ]
theorem SD {n:Nat} (q:List Ar) {num old:List Int} (h:NumOk n num old) (hb:∀ a∈q,0<=a.2/\a.2<(n:Int)) (k:Nat):NumOk n (Bp (q.take k) num old).1 (Bp (q.take k) num old).2.1:=by
 have:=NumOk.go (q.take k) [] h fun a ha=>hb a (gB8 ha)
 rw [CE] at this
 exact this
theorem SE (q:List Ar) (num old:List Int):(Bp q num old).2.2.length=q.length:=by
 induction q generalizing num old with
 | nil=>rfl
 | cons a q ih=>simp [Bp,ih]
set_option maxHeartbeats 8000000 in
theorem SF (N:List Xh) (m:Int) (hN:XI N):FC Tryz.prog 38 [aN N,.i m] [] (fun r o=>o=[]/\UY N m r):=by
 refine A7 Tryz.func38 rfl (by rw [Tryz.ntmps38];simp) ?_
 rw [Tryz.ntmps38]
 simp only [B4,aN]
 have hval:=Sn N m hN
 simp only [aN] at hval
 (refine VV ?_;(repeat clear hK K);unhygienic intros)
 refine Yt hval ?_
 cases hva:XU N m with
 | false=>
  (refine VW @gA8 ?_;unhygienic intros)
  refine W2 ?_
  (refine VV ?_;(repeat clear hK K);unhygienic intros)
  refine W6 [] Tryz.results38 ?_
  exact .inr ⟨fun h=>(by rw [Hr.2 h] at hva;cases hva),rfl⟩
 | true=>
  have hvP:=Hr.1 hva
  have hv:=hvP.nv
  have hNl:=hv.2.1
  have hcls:=SC N hv
  simp only [aN] at hcls
  (refine VW @gA9 ?_;unhygienic intros)
  refine W3 ?_
  (refine VV ?_;(repeat clear hK K);unhygienic intros)
  (refine Aj rfl ?_;intro K1 hK1;refine Ax (ids:=[]) [] (hcls) rfl rfl (by simp only [go_sem]) (by first | assumption | kernel_rfl) rfl rfl (by (simp only [gAT,gAk,go_sem]) <;> rfl) (by (simp only [Vk,Be,go_sem]) <;> rfl) ?_ ?_)
  ·rintro _ _ ⟨p,_,rfl,rfl⟩;rfl
  rintro _ _ ⟨p,hc,rfl,rfl⟩
  (simp only [Ap,AC,Be,AL,Ys,go_sem];refine hK1 _ ?_;clear hK1 K1)
  have h1:=hc.one hv.1
  have hcn:=hc.cnt
  have hcl:=hc.len
  have gz:(A9 p.1)[0]?=some (.v (.int .i64 0)):=by
   have h2:=hc.zero hv.1
   have h3:0<p.1.length:=by rw [hcl];exact hv.1
   rw [gE2,gE1 h3,gBF] at h2
   rw [At (gE1 h3),h2]
  have hcil:(A9 p.1).length=N.length:=by rw [A4,hcl]
  (refine VV ?_;(repeat clear hK K);unhygienic intros)
  (refine Aj rfl ?_;intro K1 hK1;refine Ax (ids:=[]) [1] (FS (-1) p.2 h1 (by omega)) rfl rfl (by simp only [go_sem]) (by first | assumption | kernel_rfl) rfl rfl (by (simp only [gAT,gAk,go_sem]) <;> rfl) (by (simp only [Vk,Be,A9,go_sem]) <;> rfl) ?_ ?_)
  ·rintro _ _ ⟨rfl,rfl⟩;rfl
  rintro _ _ ⟨rfl,rfl⟩
  (simp only [Ap,AC,Be,AL,Ys,go_sem];refine hK1 _ ?_;clear hK1 K1)
  have g0:0<(List.replicate p.2 (-1:Int)).length:=by simp;omega
  (refine Cu (an @hcil (an @gz (an @gAe (an @A4 (an @gAP.{0} @Bj))))) ?_;(repeat clear hK K);unhygienic intros)
  refine As (BJ 11 35 3 ?_) ?_
  ·simp only [go_sem]
  refine As (A8 [0,2,3,4] rfl rfl) ?_
  (try simp only [Yn,go_sem])
  (try simp only [A5])
  refine Ab (fun x:Nat × List Int × List Int × List Int × List (List Ar)=>{ tm:=[(0,.a (.c (.t 3 (tN N)))),(7,.a (.c (.s 0 N.length))),(9,.a (.c (.s 1 p.2))),(10,.a (.c (.s 2 x.2.2.2.1.length))),(11,.a (.c (.s 3 x.1))),(12,.i x.1)],hp:=[.r ⟨3,1,true,A9 p.1⟩,.r ⟨3,1,true,A9 x.2.1⟩,.r ⟨3,1,true,A9 x.2.2.2.1⟩,.r ⟨35,3,true,cN (Y6 N p x.2.2.2.2 x.2.2.1)⟩],n:=112,pin:=0 }) (fun x=>MzI N p x.1 x.2.1 x.2.2.1 x.2.2.2.1 x.2.2.2.2) (fun x=>p.2 - x.1) (0,(List.replicate p.2 (-1)).set 0 0,[0],[0],[]) ?_ ?_ ?_
  ·exact MzI.zero hv.1 hc
  ·have hz0:A9 [(0:Int)]=[.v (.int .i64 0)]:=rfl
   simp only [hz0,Y6,List.zipWith_nil_left,cN,List.flatMap_nil,gAJ,gAO]
   exact W5
  rintro ⟨i,num,old,st,rows⟩ hI K hK
  simp only at hI hK ⊢
  have hle:=hI.nok.le
  have hil:=hI.le
  have hol:=hI.ol
  have hsl:=hI.st.len
  have hoL:(cN (Y6 N p rows old)).length=i*3:=by rw [Im,JD (by omega),hol]
  by_cases hlt:i<st.length
  rotate_left
  ·have d1:=Yq hlt
   have hei:old.length=i:=by omega
   have hdn:=hI.done hc (by omega)
   have htk:(tN (Y6 N p rows old)).take (i*3)=tN (Y6 N p rows old):=gE7 (by rw [Bz,JD (by omega),hol];exact gBu _)
   have htl:(tN (Y6 N p rows old)).length=i*3:=by rw [Bz,JD (by omega),hol]
   generalize Y6 N p rows old=out at *
   have hnl:=hI.nok.len
   obtain ⟨g,hgd⟩:∃ g:Int->Int,g=fun x=>num.getD x.toNat 0:=⟨_,rfl⟩
   rw [<- hgd] at hdn
   have hgp:∀ x,g x=num.getD x.toNat 0:=fun x=>by rw [hgd]
   have hml:(p.1.map g).length=N.length:=by rw [gAN,hcl]
   (refine VW (an @A4 @d1) ?_;unhygienic intros)
   refine W3 ?_
   (refine VZ ?_;repeat clear hK K)
   (refine As (B6 (r:=⟨35,3,true,cN out⟩) 3 (tN out) rfl (Pu _) (show 0<(3:Nat) by omega)) ?_;simp only [ST.frz,A0.frz,AV.frz,C.frz,gBu,gBj,gBi,go_sem,htl,Cw,htk])
   (refine VV ?_;(repeat clear hK K);unhygienic intros)
   refine Ab (fun k:Nat=>{ tm:=[(7,.a (.c (.s 0 N.length))),(9,.a (.c (.s 1 p.2))),(11,.a (.c (.t 3 (tN out)))),(95,.i N.length),(96,.i k)],hp:=[.r ⟨3,1,true,A9 (Yc (p.1.map g) p.1 k)⟩,.r ⟨3,1,true,A9 num⟩],n:=112,pin:=0 }) (fun k=>k<=N.length) (fun k=>N.length - k) 0 ?_ ?_ ?_
   ·omega
   ·rw [Hv]
    refine Le.trans (A8 [0,1] rfl rfl) ?_
    simp only [go_sem,A5]
    exact W5
   rintro k hk K hK
   have hll:p.1.length=(p.1.map g).length:=by rw [gAN]
   have hml2:=JB hll k (by omega)
   have hml3:(A9 (Yc (p.1.map g) p.1 k)).length=N.length:=by rw [A4,hml2,hml]
   by_cases hlt2:k<N.length
   rotate_left
   ·have d2:=Yq hlt2
    have hkl:k=(p.1.map g).length:=by omega
    have htk2:(Ac (p.1.map g)).take N.length=Ac (p.1.map g):=gE7 (by rw [A2,hml];exact gBu _)
    have htl2:(Ac (p.1.map g)).length=N.length:=by rw [A2,hml]
    rw [hkl,JA hll]
    rw [hkl] at d2
    generalize p.1.map g=cl at *
    (refine VW @d2 ?_;unhygienic intros)
    refine W3 ?_
    (refine VZ ?_;repeat clear hK K)
    (refine As (B6 (r:=⟨3,1,true,A9 cl⟩) 0 (Ac cl) rfl (ES _) (show 0<(1:Nat) by omega)) ?_;simp only [ST.frz,A0.frz,AV.frz,C.frz,gBu,gBj,gBi,go_sem,htl2,htk2,Nat.div_one])
    (refine VV ?_;(repeat clear hK K);unhygienic intros)
    refine W6 [] Tryz.results38 ?_
    exact .inl ⟨hvP,out,cl,hdn,rfl⟩
   have d2:=Yp hlt2
   have hks:=JC hll (k:=k) (by omega)
   have hkp:k<p.1.length:=by omega
   have hmk:(Yc (p.1.map g) p.1 k)[k]?=some p.1[k]:=by
    unfold Yc
    rw [gEb (by rw [gAS];omega),gAS,show k - min k (p.1.map g).length=0 by omega,gAA,gBr,gE1 hkp]
   have gm:=At hmk
   have hpm:=hc.mem (gE6 hkp)
   rw [List.getElem_map,hgp] at hks
   generalize p.1[k]=c at *
   obtain ⟨cn,rfl⟩:∃ n:Nat,c=(n:Int):=⟨c.toNat,by omega⟩
   simp only [gAd] at hks
   have gn2:num[cn]?=some num[cn]:=gE1 (by omega)
   have gn:=At gn2
   have hgd2:num.getD cn 0=num[cn]:=by rw [gE2,gn2];rfl
   rw [hgd2] at hks
   have hni:(A9 num).length=p.2:=by rw [A4,hnl]
   generalize num[cn]=v at *
   (refine VW @d2 ?_;unhygienic intros)
   refine W2 ?_
   (refine Cu (an @hml3 (an @gm (an @gn (an @hni (an @Bj @hks))))) ?_;(repeat clear hK K);unhygienic intros)
   refine W4 ?_
   refine hK _ (k+1) (by omega) (by omega) ?_
   exact W5
  have hKo:=hK
  have d1:=Yp hlt
  have hg:=gE1 hlt
  obtain ⟨s0,s1,s2⟩:=hI.st.at_ i _ hg
  obtain ⟨s,hs⟩:∃ s:Nat,st[i]=(s:Int):=⟨st[i].toNat,by omega⟩
  rw [hs] at s0 s1 s2 hg
  have hsn:s<N.length:=by omega
  have gs:=At hg
  have hat:=LF hsn
  have hnd:N.getD s nz=N[s]:=by rw [gE2,gE1 hsn];rfl
  have hb:=hv.2.2 _ (gE6 hsn)
  obtain ⟨b1,b2⟩:=Hu hv hc hsn
  have hstep:=fun st2=>hI.step hv hc hg (st2:=st2)
  simp only [gAd] at hstep
  rw [hnd] at hstep
  have hqd:DI N p.1 s=N[s].1.map fun a=>(a.1,p.1.getD a.2.toNat 0):=by unfold DI;rw [hnd]
  obtain ⟨B,hB⟩:∃ B,B=DI N p.1 s:=⟨_,rfl⟩
  rw [<- hB] at b1 b2 hstep hqd
  generalize N[s]=x at *
  obtain ⟨A,V,dv⟩:=x
  simp only [Xo] at hat hb hqd hstep
  have hBl:B.length=A.length:=by rw [hqd,gAN]
  have hok:=SD B hI.nok (fun a ha=>by have:=b2 a ha;omega)
  have hil3:(A9 st).length=st.length:=A4 _
  (refine VW (an @hil3 @d1) ?_;unhygienic intros)
  refine W2 ?_
  (refine Cu (an @hil3 (an @gs (an @hat (an @Bz (an @Cw (an @A3 @Aq)))))) ?_;(repeat clear hK K);unhygienic intros)
  refine As (BJ 14 23 2 ?_) ?_
  ·simp only [go_sem]
  refine Ab (fun y:Nat × List Int=>{ tm:=[(0,.a (.c (.t 3 (tN N)))),(7,.a (.c (.s 0 N.length))),(9,.a (.c (.s 1 p.2))),(10,.a (.c (.s 2 y.2.length))),(11,.a (.c (.s 3 i))),(12,.i i),(13,.a (.c (.p 4 0))),(14,.a (.c (.s 5 y.1))),(51,.a (.c (.t 2 (Aw A)))),(52,.i A.length),(53,.i y.1)],hp:=[.r ⟨3,1,true,A9 p.1⟩,.r ⟨3,1,true,A9 (Bp (B.take y.1) num old).1⟩,.r ⟨3,1,true,A9 y.2⟩,.r ⟨35,3,true,cN (Y6 N p rows old)⟩,.r ⟨35,3,false,[.t 2 (Aw A),.t 1 (Az V),.v (.bool dv)]⟩,.r ⟨23,2,true,AG (Bp (B.take y.1) num old).2.2⟩],n:=112,pin:=0 }) (fun y=>y.1<=A.length/\StO N p.1 y.2 (Bp (B.take y.1) num old).2.1) (fun y=>A.length - y.1) (0,st) ?_ ?_ ?_
  ·exact ⟨by simp only;omega,hI.st⟩
  ·have hc0:AG []=[]:=rfl
   simp only [gBq,Bp,hc0]
   exact W5
  rintro ⟨k,st2⟩ ⟨hk,hst2⟩ K hK
  simp only at hk hst2 hK ⊢
  have hok2:=hok k
  have hrl:=SE (B.take k) num old
  rw [gAS] at hrl
  have hol2:=hst2.len
  have hlen2:=hok2.len
  have hle2:=hok2.le
  by_cases hlt2:k<A.length
  rotate_left
  ·have d2:=Yq hlt2
   have hkA:k=B.length:=by omega
   have hBt:B.take k=B:=gE7 (by omega)
   rw [hBt] at hrl hst2 hok2 hlen2 hle2 hol2 ⊢
   have hst3:=hstep st2 hst2
   generalize hZ:Bp B num old=Z at *
   obtain ⟨num2,old2,ya⟩:=Z
   simp only at hok2 hst2 hrl hlen2 hle2 hol2 hst3
   have hya:ya.length=k:=by omega
   have hcp:=PL A ya V dv (by have:=hb.2.2.2.1;omega) (fun s hs=>by have:=(hb.2.2.2.2 s hs).1;omega)
   have htk:(Aw ya).take (k*2)=Aw ya:=gE7 (by rw [A3,hya];exact gBu _)
   have hsnoc:(cN (Y6 N p rows old)).take (i*3)++[.t 2 (Aw ya),.t 1 (Az V),.v (.bool dv)]=cN (Y6 N p (rows++[ya]) old2):=by
    rw [gE7 (by rw [hoL];exact gBu _),hst3.2]
    exact Jh _ (ya,V,dv)
   (refine VW @d2 ?_;unhygienic intros)
   refine W3 ?_
   (refine VZ ?_;repeat clear hK K)
   (refine As (B6 (r:=⟨23,2,true,AG ya⟩) 5 (Aw ya) rfl (DB _) (show 0<(2:Nat) by omega)) ?_;simp only [ST.frz,A0.frz,AV.frz,C.frz,gBu,gBj,gBi,go_sem,A3,Aq,hya,htk])
   (refine VV ?_;(repeat clear hK K);unhygienic intros)
   (refine Aj rfl ?_;intro K1 hK1;refine Ax (ids:=[]) [] (hcp) rfl rfl (by simp only [go_sem]) (by first | assumption | kernel_rfl) rfl rfl (by (simp only [gAT,gAk,go_sem]) <;> rfl) (by (simp only [Vk,Xp,XC,go_sem]) <;> rfl) ?_ ?_)
   ·rintro _ _ ⟨rfl,rfl⟩;rfl
   rintro _ _ ⟨rfl,rfl⟩
   (simp only [Ap,AC,Xp,XC,Ys,go_sem];refine hK1 _ ?_;clear hK1 K1)
   (refine VW (an @hoL (an @Cw @hsnoc)) ?_;(repeat clear hK K);unhygienic intros)
   refine W4 ?_
   refine hKo _ (i+1,num2,old2,st2,rows++[ya]) hst3.1 (by have:=hst3.1.le;have:=hst3.1.nok.le;simp only;omega) ?_
   refine Le.trans (A8 [0,1,2,8] rfl rfl) ?_
   (try simp only [Yn,go_sem])
   (try simp only [A5,F2,G5])
   exact W5
  have d2:=Yp hlt2
  have hnx:=O6 (q:=B) (k:=k) (by omega) num old
  have hBk:B[k]'(by omega)=(A[k].1,p.1.getD A[k].2.toNat 0):=by simp only [hqd,List.getElem_map]
  have hbk:=b2 _ (gE6 (show k<B.length by omega))
  rw [hBk] at hnx hbk
  have hat2:=AS hlt2
  have hab:=hb.2.2.1 _ (gE6 hlt2)
  generalize A[k]=a at *
  obtain ⟨e,t⟩:=a
  simp only at hat2 hab hnx hbk
  obtain ⟨tn,rfl⟩:∃ n:Nat,t=(n:Int):=⟨t.toNat,by omega⟩
  have htl:tn<p.1.length:=by omega
  have gc:=At (gE1 htl)
  have hgd:p.1.getD tn 0=p.1[tn]:=by rw [gE2,gE1 htl];rfl
  have hsn2:=hst2.snoc (t:=(tn:Int)) (x:=p.1.getD tn 0) (by omega) (by omega) (by rw [gAd])
  simp only [gAd] at hnx hbk
  rw [hgd] at hnx hbk hsn2
  generalize p.1[tn]=c at *
  obtain ⟨cn,rfl⟩:∃ n:Nat,c=(n:Int):=⟨c.toNat,by omega⟩
  have hcl2:cn<p.2:=by omega
  generalize hZ:Bp (B.take k) num old=Z at *
  obtain ⟨num2,old2,ya⟩:=Z
  simp only at hok2 hst2 hrl hlen2 hle2 hsn2 hnx hol2
  have gn2:num2[cn]?=some num2[cn]:=gE1 (by omega)
  have gn:=At gn2
  have hni:(A9 num2).length=p.2:=by rw [A4,hlen2]
  have hal:(AG ya).length=k*2:=by rw [AD,hrl];omega
  by_cases hx:num2[cn]<0
  rotate_left
  ·have d3:decide (num2[cn]<0)=false:=by simpa using hx
   have hone:AM num2 old2 (cn:Int)=(num2,old2):=by
    simp only [AM,gAd,gE2,gn2,gBF,if_neg hx]
   have hgd2:num2.getD cn 0=num2[cn]:=by rw [gE2,gn2];rfl
   simp only [hone,gAd,hgd2] at hnx
   have ca:(AG ya).take (k*2)++[C.v (.int .i64 e),C.v (.int .i64 num2[cn])]=AG (ya++[(e,num2[cn])]):=by
    rw [gE7 (by rw [hal];exact gBu _)];simp [AG]
   (refine VW @d2 ?_;unhygienic intros)
   refine W2 ?_
   (refine Cu (an @hat2 (an @A3 (an @Aq (an @hcil (an @gc (an @gn (an @hni @d3))))))) ?_;unhygienic intros)
   refine W3 ?_
   (refine VV ?_;unhygienic intros)
   refine Yr 8 [(0,0),(1,0),(2,1),(3,0),(4,0),(5,0),(6,1),(7,0),(8,2),(9,2),(10,0)] ?_
   (refine VS (an @gn (an @hni (an @hal @ca))) ?_;repeat clear hK K)
   (refine VV ?_;(repeat clear hK K);unhygienic intros)
   refine W4 ?_
   refine hK _ (k+1,st2) ⟨by simp only;omega,?_⟩ (by simp only;omega) ?_
   ·simp only [hnx];exact hst2
   simp only [hnx]
   refine Le.trans (A8 [0,1,2,3,4,8] rfl rfl) ?_
   (try simp only [Yn,go_sem])
   (try simp only [A5,F2,G5])
   exact W5
  have d3:decide (num2[cn]<0)=true:=by simpa using hx
  have hone:AM num2 old2 (cn:Int)=(num2.set cn (old2.length:Int),old2++[(cn:Int)]):=by
   simp only [AM,gAd,gE2,gn2,gBF,if_pos hx]
  have gs2:(A9 (num2.set cn (old2.length:Int)))[cn]?=some (.v (.int .i64 (old2.length:Int))):=At (gEc (by omega))
  have hgd2:(num2.set cn (old2.length:Int)).getD cn 0=(old2.length:Int):=by rw [gE2,gEc (by omega)];rfl
  simp only [hone,gAd,hgd2] at hnx
  have op:=Km st2 (tn:Int)
  have ca:(AG ya).take (k*2)++[C.v (.int .i64 e),C.v (.int .i64 (old2.length:Int))]=AG (ya++[(e,(old2.length:Int))]):=by
   rw [gE7 (by rw [hal];exact gBu _)];simp [AG]
  rw [hol2] at op ⊢
  (refine VW @d2 ?_;unhygienic intros)
  refine W2 ?_
  (refine Cu (an @hat2 (an @A3 (an @Aq (an @hcil (an @gc (an @gn (an @hni @d3))))))) ?_;unhygienic intros)
  refine W2 ?_
  (refine Cu (an @hcil (an @gc (an @gn (an @hni (an @A4 (an @hlen2 (an @Bj (an @op (an @hol2 @gAQ.{0}))))))))) ?_;unhygienic intros)
  refine Yr 8 [(0,0),(1,0),(2,1),(3,0),(4,0),(5,0),(6,1),(7,0),(8,2),(9,2),(10,0)] ?_
  (refine VS (an @gs2 (an @A4 (an @hlen2 (an @gAQ.{0} (an @hal @ca))))) ?_;repeat clear hK K)
  (refine VV ?_;(repeat clear hK K);unhygienic intros)
  refine W4 ?_
  refine hK _ (k+1,st2++[(tn:Int)]) ⟨by simp only;omega,?_⟩ (by simp only;omega) ?_
  ·simp only [hnx];exact hsn2
  simp only [hnx,gAI,gAJ,gAO,hol2]
  refine Le.trans (A8 [0,1,8,3,4,10] rfl rfl) ?_
  (try simp only [Yn,go_sem])
  (try simp only [A5,F2,G5])
  exact W5
def aH (p:List Int × Nat):List Int:=(List.range p.2).map fun j:Nat=>(p.1.idxOf (j:Int):Int)
theorem YJ (p:List Int × Nat):(aH p).length=p.2:=by simp [aH]
theorem Z6 {p:List Int × Nat} {j:Nat} (hj:j<p.2):(aH p)[j]?=some (p.1.idxOf (j:Int):Int):=by
 unfold aH
 rw [gAC,List.getElem?_range hj];rfl
theorem ZH {N:List Xh} {p:List Int × Nat} {j:Nat} (hj:j<p.2):(qN N p).take (j+1)=(qN N p).take j++[DI N p.1 (p.1.idxOf (j:Int))]:=by
 have h:=Qx (N:=N) hj
 rw [gE8 (by rw [Iw];exact hj)]
 rw [gE1 (by rw [Iw];exact hj)] at h
 rw [Option.some.inj h]
theorem Zi {p:List Int × Nat} {j:Nat} (hj:j<p.2):(aH p).take (j+1)=(aH p).take j++[(p.1.idxOf (j:Int):Int)]:=by
 have h:=Z6 (p:=p) hj
 rw [gE8 (by rw [YJ];exact hj)]
 rw [gE1 (by rw [YJ];exact hj)] at h
 rw [Option.some.inj h]
theorem ZX {N:List Xh} {p:List Int × Nat} {num:List Int} (hN:NvB N) (hn:XM 1 0 N=true) (hc:ClN N p) (h2:NumOk p.2 num (AZ (qN N p)).2) (h4:NumSur num (AZ (qN N p)).2):(AZ (qN N p)).2.length=p.2/\p.1.map (fun x=>(aG (AZ (qN N p)).2 p.2).getD x.toNat 0)=p.1.map fun x=>num.getD x.toNat 0:=by
 have hle:=h2.le
 have hinj:∀ (i j:Nat) (x:Int),(AZ (qN N p)).2[i]?=some x->(AZ (qN N p)).2[j]?=some x->i=j:=fun i j x h5 h6=>by
  have a1:=(h4 i x h5).2
  have a2:=(h4 j x h6).2
  rw [a1] at a2
  have:=Option.some.inj a2
  omega
 have hlen:(AZ (qN N p)).2.length=p.2:=by
  refine Nat.le_antisymm hle ?_
  have:((List.range p.2).map fun j:Nat=>(j:Int)).length<=(AZ (qN N p)).2.length:=by
   refine G3 (List.Pairwise.map _ (fun a b hab e=>hab (by omega)) List.nodup_range) fun x hx=>?_
   obtain ⟨j,hj,rfl⟩:=gB7.1 hx
   exact YY hN hn hc (gBa.1 hj)
  simpa using this
 refine ⟨hlen,gAU fun x hx=>?_⟩
 obtain ⟨s,hs,rfl⟩:=gAG hx
 have h3:=PP hN hn hc s (by rw [<- hc.len];exact hs)
 rw [gE2,gE1 hs,gBF] at h3
 obtain ⟨j,hj,he⟩:=gAG h3
 have hg:=(gE1 hj).trans (congrArg some he)
 have h5:=ZW (old:=(AZ (qN N p)).2) (fun x hx=>by have:=h2.st x hx;omega) hinj (AZ (qN N p)).2.length (gBu _) j hj
 rw [hlen,show (AZ (qN N p)).2.getD j 0=p.1[s] from by rw [gE2,hg];rfl] at h5
 rw [h5,gE2,(h4 j _ hg).2];rfl
set_option maxHeartbeats 16000000 in
theorem ZY (N:List Xh) (m:Int) (hN:XI N):FC Tryz.prog 60 [aN N,.i m] [] (fun r o=>o=[]/\UY N m r):=by
 refine A7 Tryz.func60 rfl (by rw [Tryz.ntmps60];simp) ?_
 rw [Tryz.ntmps60]
 simp only [B4,aN]
 have hval:=Zz N m hN
 simp only [aN] at hval
 (refine VV ?_;(repeat clear hK K);unhygienic intros)
 refine Yt hval ?_
 cases hva:XU N m with
 | false=>
  (refine VW @gA8 ?_;unhygienic intros)
  refine W2 ?_
  (refine VV ?_;(repeat clear hK K);unhygienic intros)
  refine W6 [] Tryz.results60 ?_
  exact .inr ⟨fun h=>(by rw [Hr.2 h] at hva;cases hva),rfl⟩
 | true=>
  have hvP:=Hr.1 hva
  have hv:=hvP.nv
  have hNl:=hv.2.1
  have hzr:A9 (List.replicate N.length 0)=List.replicate N.length (C.v (.int .i64 0)):=by simp [A9]
  (refine VW @gA9 ?_;unhygienic intros)
  refine W3 ?_
  (refine VW (an @Bz @Cw) ?_;(repeat clear hK K);unhygienic intros)
  refine Ab (fun k:Nat=>{ tm:=[(0,.a (.c (.t 3 (tN N)))),(7,.a (.c (.s 0 N.length)))],hp:=[.r ⟨3,1,true,A9 (aC N k)⟩],n:=219,pin:=0 }) (fun _=>True) (fun k=>aD N k) 0 ?_ ?_ ?_
  ·trivial
  ·have e0:aC N 0=List.replicate N.length 0:=rfl
   rw [e0,hzr]
   exact W5
  rintro j _ K hK
  obtain ⟨hcl,hcr⟩:=ZS N j
  have hnx:=Z2 N j
  have hend:=ZB (N:=N) (k:=j)
  have hms:=ZT (N:=N) (k:=j)
  have hnxt:aC N (j+1)=(Y3 N j).1:=rfl
  generalize aC N j=c at *
  have hri:=fun s t=>ZC (N:=N) (c:=c) (s:=s) (t:=t)
  obtain ⟨g,hg⟩:∃ g,g=ak N c:=⟨_,rfl⟩
  have hnx2:WE g N.length=Y3 N j:=by rw [hg];exact hnx
  rw [<- hg] at hri
  clear hg hnx
  have hKo:=hK
  have hci:(A9 c).length=N.length:=by rw [A4,hcl]
  (refine VW (an @Bz @Cw) ?_;(repeat clear hK K);unhygienic intros)
  refine Ab (fun i:Nat=>{ tm:=[(0,.a (.c (.t 3 (tN N)))),(7,.a (.c (.s 0 N.length))),(8,.a (.c (.s 1 N.length))),(9,.i (WE g i).2),(10,.i i)],hp:=[.r ⟨3,1,true,A9 c⟩,.r ⟨3,1,true,A9 (aE g N.length i)⟩],n:=219,pin:=0 }) (fun i=>i<=N.length) (fun i=>N.length - i) 0 ?_ ?_ ?_
  ·omega
  ·have e1:(WE g 0).2=0:=rfl
   rw [Zh,hzr,e1]
   exact W5
  rintro i hi K hK
  by_cases hlt:i<N.length
  ·have d1:=Yp hlt
   have hK1o:=hK
   have hpl:(A9 (aE g N.length i)).length=N.length:=by rw [A4,Z3 g (by omega)]
   have hps:=ZF g hlt (-1)
   have hcn:=(BK g i).cnt
   (refine VW (an @Bz (an @Cw @d1)) ?_;unhygienic intros)
   refine W2 ?_
   (refine Cu (an @hpl (an @Bj @hps)) ?_;(repeat clear hK K);unhygienic intros)
   refine Ab (fun y:Nat × Int=>{ tm:=[(0,.a (.c (.t 3 (tN N)))),(7,.a (.c (.s 0 N.length))),(8,.a (.c (.s 1 N.length))),(9,.i (WE g i).2),(10,.i i),(11,.i y.1)],hp:=[.r ⟨3,1,true,A9 c⟩,.r ⟨3,1,true,A9 (aF g N.length i y.2)⟩],n:=219,pin:=0 }) (fun y=>y.1<=i/\((y.2 = -1/\∀ u,u<y.1->g u ≠ g i)\/(0<=y.2/\∃ t,t<i/\g t=g i/\(∀ u,u<t->g u ≠ g i)/\y.2=(WE g i).1.getD t 0))) (fun y=>i - y.1) (0,-1) ?_ ?_ ?_
   ·exact ⟨by simp only;omega,.inl ⟨rfl,fun u hu=>by simp only at hu;omega⟩⟩
   ·exact W5
   rintro ⟨k,v⟩ ⟨hk,hcase⟩ K hK
   simp only at hk hcase hK ⊢
   have hvl2:(A9 (aF g N.length i v)).length=N.length:=by rw [A4,ZE g hlt]
   have hva2:=At (ZU g N.length i v)
   rcases hcase with ⟨hvm,hnot⟩ | ⟨hv0,t,ht,hte,htn,htv⟩
   rotate_left
   ·have WR:decide (v<0)=false:=gBK (by omega)
    by_cases hki:k<i
    rotate_left
    ·have d2:decide ((k:Int)<(i:Int))=false:=gBK (by omega)
     (refine VW @d2 ?_;(repeat clear hK K);unhygienic intros)
     have hfs:WE g (i+1)=((WE g i).1++[v],(WE g i).2):=by
      rw [EC (Ii ht hte htn),<- htv]
     have hnv:=YC g hlt hfs
     have hn2:(WE g (i+1)).2=(WE g i).2:=by rw [hfs]
     refine W3 ?_
     (refine VZ ?_;repeat clear hK K)
     (refine VW (an @hvl2 (an @hva2 @WR)) ?_;unhygienic intros)
     refine W3 ?_
     (refine VV ?_;(repeat clear hK K);unhygienic intros)
     refine W4 ?_
     refine hK1o _ (i+1) (by omega) (by omega) ?_
     rw [hn2,<- hnv]
     exact W5
    have d2:decide ((k:Int)<(i:Int))=true:=gEg (by omega)
    (refine VW (an @d2 (an @hvl2 (an @hva2 @WR))) ?_;(repeat clear hK K);unhygienic intros)
    have hfs:WE g (i+1)=((WE g i).1++[v],(WE g i).2):=by
     rw [EC (Ii ht hte htn),<- htv]
    have hnv:=YC g hlt hfs
    have hn2:(WE g (i+1)).2=(WE g i).2:=by rw [hfs]
    refine W3 ?_
    (refine VZ ?_;repeat clear hK K)
    (refine VW (an @hvl2 (an @hva2 @WR)) ?_;unhygienic intros)
    refine W3 ?_
    (refine VV ?_;(repeat clear hK K);unhygienic intros)
    refine W4 ?_
    refine hK1o _ (i+1) (by omega) (by omega) ?_
    rw [hn2,<- hnv]
    exact W5
   subst hvm
   by_cases hki:k<i
   rotate_left
   ·have d2:decide ((k:Int)<(i:Int))=false:=gBK (by omega)
    have dm:decide ((-1:Int)<0)=true:=by decide
    have hfs:WE g (i+1)=((WE g i).1++[((WE g i).2:Int)],(WE g i).2+1):=ED (Ij fun u hu=>hnot u (by omega))
    have hnv:=YC g hlt hfs
    have hvs:=Z4 g N.length i (-1) ((WE g i).2:Int)
    rw [hnv] at hvs
    have hn2:(WE g (i+1)).2=(WE g i).2+1:=by rw [hfs]
    (refine VW @d2 ?_;unhygienic intros)
    refine W3 ?_
    (refine VZ ?_;repeat clear hK K)
    (refine VW (an @hvl2 (an @hva2 @dm)) ?_;unhygienic intros)
    refine W2 ?_
    (refine Cu (an @hvl2 (an @Bj @hvs)) ?_;(repeat clear hK K);unhygienic intros)
    refine W4 ?_
    refine hK1o _ (i+1) (by omega) (by omega) ?_
    rw [hn2]
    exact W5
   have d2:decide ((k:Int)<(i:Int))=true:=gEg (by omega)
   have dm:decide ((-1:Int)<0)=true:=by decide
   have gk:=At (gE1 (show k<c.length by omega))
   have gi:=At (gE1 (show i<c.length by omega))
   have hgk:c.getD k 0=c[k]'(by omega):=Yo (by omega)
   have hgi:c.getD i 0=c[i]'(by omega):=Yo (by omega)
   have hatk:=LF (show k<N.length by omega)
   have hati:=LF hlt
   have hNk:N.getD k nz=N[k]'(by omega):=Yo (by omega)
   have hNi:N.getD i nz=N[i]:=Yo hlt
   have hbk:=hv.2.2 _ (gE6 (show k<N.length by omega))
   have hbi:=hv.2.2 _ (gE6 hlt)
   have hrk:=hri k i
   rw [hgk,hgi,hNk,hNi] at hrk
   have hvk:=At (ZV g N.length (-1) hki)
   have hvs:=Z4 g N.length i (-1) ((WE g i).1.getD k 0)
   have hrg:=((BK g i).rng k hki).1
   generalize c[k]'(by omega)=z1 at *
   generalize c[i]'(by omega)=z2 at *
   generalize N[k]'(by omega)=xk at *
   generalize N[i]=xi at *
   obtain ⟨A,V,dv⟩:=xi
   obtain ⟨B,W,dw⟩:=xk
   simp only [Xo] at hatk hati hbk hbi
   have hal:=ZA A B V W dv dw c (by omega) (by omega) (by omega) (by omega) (fun s h=>by have:=(hbi.2.2.2.2 s h).1;omega) (fun s h=>by have:=(hbk.2.2.2.2 s h).1;omega) (by omega) (fun a ha=>by have:=hbi.2.2.1 a ha;omega) (fun a ha=>by have:=hbk.2.2.1 a ha;omega)
   rw [hcl] at hal
   simp only [Be] at hal
   (refine VW (an @d2 (an @hvl2 (an @hva2 @dm))) ?_;(repeat clear hK K);unhygienic intros)
   refine W2 ?_
   by_cases hz:z1=z2
   rotate_left
   ·have dz:(z1 == z2)=false:=by simpa using hz
    (refine VV ?_;unhygienic intros)
    refine Yr 19 [(0,0),(1,0),(2,0),(3,1),(4,0),(5,0),(6,0),(7,1),(8,0),(9,0),(10,0),(11,0),(12,0),(13,1),(14,0),(15,0),(16,0),(17,1),(18,0),(19,2),(20,0)] ?_
    (refine VQ (an @gk (an @gi (an @hci @dz))) ?_;repeat clear hK K)
    (refine VV ?_;unhygienic intros)
    refine W3 ?_
    (refine VV ?_;(repeat clear hK K);unhygienic intros)
    refine W4 ?_
    refine hK _ (k+1,-1) ⟨by simp only;omega,.inl ⟨rfl,fun u hu=>?_⟩⟩ (by simp only;omega) ?_
    rotate_left
    ·exact W5
    by_cases e:u=k
    ·subst e;exact fun q=>hz (hrk.1 q).1
    exact hnot u (by simp only at hu;omega)
   have dz:(z1 == z2)=true:=by simpa using hz
   cases hb:Zp c (A,V,dv) (B,W,dw) with
   | true=>
    rw [hb] at hal hrk
    (refine VV ?_;unhygienic intros)
    refine Yr 19 [(0,0),(1,0),(2,0),(3,1),(4,0),(5,0),(6,0),(7,1),(8,0),(9,0),(10,0),(11,0),(12,0),(13,1),(14,0),(15,0),(16,0),(17,1),(18,0),(19,2),(20,0)] ?_
    (refine VQ (an @gk (an @gi (an @hci (an @dz (an @hatk (an @hati (an @Bz @Cw))))))) ?_;repeat clear hK K)
    (refine Ue rfl rfl rfl (by simp only [go_sem] <;> rfl) rfl ?_;intro K1 hK1;refine Ax (ids:=[]) [0] (hal) rfl rfl (by simp only [go_sem]) (by first | assumption | kernel_rfl) rfl rfl (by (simp only [gAT,gAk,go_sem]) <;> rfl) (by (simp only [Vk,A5,go_sem]) <;> rfl) ?_ ?_)
    ·rintro _ _ ⟨rfl,rfl⟩;rfl
    rintro _ _ ⟨rfl,rfl⟩
    (simp only [Ap,AC,AL,A5,Ys,go_sem];refine hK1 _ ?_;clear hK1 K1)
    (refine VP ?_;repeat clear hK K)
    (refine VV ?_;unhygienic intros)
    refine W2 ?_
    (refine Cu (an @hvl2 (an @hvk (an @Bj @hvs))) ?_;(repeat clear hK K);unhygienic intros)
    refine W4 ?_
    refine hK _ (k+1,(WE g i).1.getD k 0) ⟨by simp only;omega,.inr ⟨hrg,k,hki,hrk.2 ⟨hz,rfl⟩,hnot,rfl⟩⟩ (by simp only;omega) ?_
    exact W5
   | false=>
    rw [hb] at hal hrk
    (refine VV ?_;unhygienic intros)
    refine Yr 19 [(0,0),(1,0),(2,0),(3,1),(4,0),(5,0),(6,0),(7,1),(8,0),(9,0),(10,0),(11,0),(12,0),(13,1),(14,0),(15,0),(16,0),(17,1),(18,0),(19,2),(20,0)] ?_
    (refine VQ (an @gk (an @gi (an @hci (an @dz (an @hatk (an @hati (an @Bz @Cw))))))) ?_;repeat clear hK K)
    (refine Ue rfl rfl rfl (by simp only [go_sem] <;> rfl) rfl ?_;intro K1 hK1;refine Ax (ids:=[]) [0] (hal) rfl rfl (by simp only [go_sem]) (by first | assumption | kernel_rfl) rfl rfl (by (simp only [gAT,gAk,go_sem]) <;> rfl) (by (simp only [Vk,A5,go_sem]) <;> rfl) ?_ ?_)
    ·rintro _ _ ⟨rfl,rfl⟩;rfl
    rintro _ _ ⟨rfl,rfl⟩
    (simp only [Ap,AC,AL,A5,Ys,go_sem];refine hK1 _ ?_;clear hK1 K1)
    (refine VP ?_;repeat clear hK K)
    (refine VV ?_;unhygienic intros)
    refine W3 ?_
    (refine VV ?_;(repeat clear hK K);unhygienic intros)
    refine W4 ?_
    refine hK _ (k+1,-1) ⟨by simp only;omega,.inl ⟨rfl,fun u hu=>?_⟩⟩ (by simp only;omega) ?_
    rotate_left
    ·exact W5
    by_cases e:u=k
    ·subst e;exact fun q=>by have:=(hrk.1 q).2;cases this
    exact hnot u (by simp only at hu;omega)
  have d1:=Yq hlt
  have hiN:i=N.length:=by omega
  obtain ⟨c2,hc2⟩:∃ c2,c2=(Y3 N j).1:=⟨_,rfl⟩
  have hP:aE g N.length i=c2:=by rw [hiN,ZD,hnx2,hc2]
  have hc2l:c2.length=N.length:=by rw [<- hP,Z3 g hi]
  have hin:=FC.inL2 (e:=3) (Hp c c2 (by omega) (by omega))
  rw [hcl,hc2l] at hin
  rw [hP]
  rw [<- hc2] at hend hms hnxt
  by_cases he:c=c2
  rotate_left
  ·rw [gBK he] at hin
   (refine VW (an @Bz (an @Cw @d1)) ?_;unhygienic intros)
   refine W3 ?_
   (refine VZ ?_;repeat clear hK K)
   (refine VV ?_;(repeat clear hK K);unhygienic intros)
   (refine Aj rfl ?_;intro K1 hK1;refine Ax (ids:=[]) [0,1] (hin) rfl rfl (by simp only [go_sem]) (by first | assumption | kernel_rfl) rfl rfl (by (simp only [gAT,gAk,go_sem]) <;> rfl) (by (simp only [Vk,A5,go_sem]) <;> rfl) ?_ ?_)
   ·rintro _ _ ⟨rfl,rfl⟩;rfl
   rintro _ _ ⟨rfl,rfl⟩
   (simp only [Ap,AC,AL,A5,Ys,go_sem];refine hK1 _ ?_;clear hK1 K1)
   (refine VV ?_;unhygienic intros)
   refine W3 ?_
   (refine VV ?_;(repeat clear hK K);unhygienic intros)
   refine W4 ?_
   refine hKo _ (j+1) trivial (hms he) ?_
   rw [hnxt]
   refine Le.trans (A8 [1] rfl rfl) ?_
   simp only [go_sem,A5]
   exact W5
  rw [gEg he] at hin
  have hclN:=hend he
  clear hKo
  (refine VW (an @Bz (an @Cw @d1)) ?_;unhygienic intros)
  refine W3 ?_
  (refine VZ ?_;repeat clear hK K)
  (refine VV ?_;(repeat clear hK K);unhygienic intros)
  (refine Aj rfl ?_;intro K1 hK1;refine Ax (ids:=[]) [0,1] (hin) rfl rfl (by simp only [go_sem]) (by first | assumption | kernel_rfl) rfl rfl (by (simp only [gAT,gAk,go_sem]) <;> rfl) (by (simp only [Vk,A5,go_sem]) <;> rfl) ?_ ?_)
  ·rintro _ _ ⟨rfl,rfl⟩;rfl
  rintro _ _ ⟨rfl,rfl⟩
  (simp only [Ap,AC,AL,A5,Ys,go_sem];refine hK1 _ ?_;clear hK1 K1)
  (refine VV ?_;unhygienic intros)
  refine W2 ?_
  (refine VZ ?_;repeat clear hK K)
  (refine VV ?_;(repeat clear hK K);unhygienic intros)
  have hcp:c=(Y3 N j).1:=he.trans hc2
  generalize Y3 N j=p at *
  obtain ⟨f,hf⟩:=hclN.nm
  have hcnt:=hclN.cnt
  have h1:=hclN.one hv.1
  have hql:=Iw N p
  have hfl:=YJ p
  clear hin hend hms hnxt hP
  subst hcp
  refine As (I6 24 1) ?_
  simp only [gAm,gBc]
  refine As (FU 2 0 3 (by decide) rfl rfl rfl) ?_
  simp only [gBj,gBi]
  refine As (BJ 13 3 1 ?_) ?_
  ·simp only [go_sem]
  refine As (A8 [0,2,3,4] rfl rfl) ?_
  (try simp only [Yn,go_sem])
  (try simp only [A5])
  refine Ab (fun i:Nat=>{ tm:=[(0,.a (.c (.t 3 (tN N)))),(7,.a (.c (.s 0 N.length))),(12,.a (.c (.p 1 0))),(13,.a (.c (.s 3 (WE f i).2))),(14,.i i)],hp:=[.r ⟨3,1,true,A9 p.1⟩,.r ⟨27,1,false,[.s 2 (WE f i).2]⟩,.r ⟨24,1,true,Br ((qN N p).take (WE f i).2)⟩,.r ⟨3,1,true,A9 ((aH p).take (WE f i).2)⟩],n:=219,pin:=0 }) (fun i=>i<=N.length) (fun i=>N.length - i) 0 ?_ ?_ ?_
  ·omega
  ·have e1:(WE f 0).2=0:=rfl
   have e2:Br []=[]:=rfl
   have e3:A9 []=[]:=rfl
   rw [e1]
   simp only [gBq,e2,e3]
   exact W5
  rintro i hi K hK
  have hmono:(WE f i).2<=p.2:=by
   have hm:∀ a b,a<=b->(WE f a).2<=(WE f b).2:=fun a b hab=>by
    induction b with
    | zero=>rw [show a=0 by omega];exact gBu _
    | succ b ih=>
     by_cases e:a=b+1
     ·rw [e];exact gBu _
     have:=ih (by omega)
     rcases EE f b with ⟨_,_,_,_,h4⟩ | ⟨_,h4⟩ <;> rw [h4] <;> simp only <;> omega
   have:=hm i N.length hi
   rw [hf] at this
   exact this
  by_cases hlt:i<N.length
  ·have d1:=Yp hlt
   have gi:=At (gE1 (show i<p.1.length by omega))
   have hgi:p.1.getD i 0=p.1[i]'(by omega):=Yo (by omega)
   have hfst:=ZG f hlt
   rw [hf,hgi] at hfst
   generalize p.1[i]'(by omega)=z at *
   rcases hfst with ⟨hz,hc1,hix⟩ | ⟨hz,hc1⟩
   rotate_left
   ·have dz:(z == ((WE f i).2:Int))=false:=by simpa using hz
    have hQc:(Br ((qN N p).take (WE f i).2)).length=(WE f i).2:=by rw [AH,gAS];omega
    (refine VW (an @Bz (an @Cw @d1)) ?_;unhygienic intros)
    refine W2 ?_
    (refine VV ?_;unhygienic intros)
    refine Yr 7 [(0,0),(1,0),(2,0),(3,1),(4,0),(5,1),(6,0),(7,2)] ?_
    (refine SS (an @gi (an @hci (an @hQc @dz))) ?_;repeat clear hK K)
    (refine VV ?_;unhygienic intros)
    refine W3 ?_
    (refine VV ?_;(repeat clear hK K);unhygienic intros)
    refine W4 ?_
    refine hK _ (i+1) (by omega) (by omega) ?_
    rw [hc1]
    exact W5
   have dz:(z == ((WE f i).2:Int))=true:=by simpa using hz
   have hKi:=hK
   have hat:=Ut hlt
   have hNi:N.getD i nz=N[i]:=Yo hlt
   have hbi:=hv.2.2 _ (gE6 hlt)
   have hBq:DI N p.1 i=N[i].1.map fun a=>(a.1,p.1.getD a.2.toNat 0):=by unfold DI;rw [hNi]
   obtain ⟨cn,hcn2⟩:∃ cn,cn=(WE f i).2:=⟨_,rfl⟩
   rw [<- hcn2] at hc1 hix hmono dz ⊢
   have hlt3:cn<p.2:=by
    have h5:=hclN.rng hlt
    rw [hgi,hz,<- hcn2] at h5
    omega
   have hqt:=ZH (N:=N) (p:=p) hlt3
   have hft:=Zi (p:=p) hlt3
   rw [hix] at hqt hft
   obtain ⟨B,hB⟩:∃ B,B=DI N p.1 i:=⟨_,rfl⟩
   rw [<- hB] at hqt hBq
   have hQl:((qN N p).take cn).length=cn:=by rw [gAS];omega
   have hFl:((aH p).take cn).length=cn:=by rw [gAS];omega
   generalize (qN N p).take cn=Q at *
   generalize (aH p).take cn=F at *
   have hQc:(Br Q).length=cn:=by rw [AH,hQl]
   have hFc:(A9 F).length=cn:=by rw [A4,hFl]
   generalize N[i]=x at *
   obtain ⟨A,V,dv⟩:=x
   simp only at hat hbi hBq
   have hBl:B.length=A.length:=by rw [hBq,gAN]
   (refine VW (an @Bz (an @Cw @d1)) ?_;unhygienic intros)
   refine W2 ?_
   (refine VV ?_;unhygienic intros)
   refine Yr 7 [(0,0),(1,0),(2,0),(3,1),(4,0),(5,1),(6,0),(7,2)] ?_
   (refine SS (an @gi (an @hci (an @hQc @dz))) ?_;repeat clear hK K)
   (refine VV ?_;unhygienic intros)
   refine W2 ?_
   (refine VV ?_;(repeat clear hK K);unhygienic intros)
   refine As (BJ 15 23 2 ?_) ?_
   ·simp only [go_sem]
   refine Ab (fun k:Nat=>{ tm:=[(0,.a (.c (.t 3 (tN N)))),(7,.a (.c (.s 0 N.length))),(12,.a (.c (.p 1 0))),(13,.a (.c (.s 3 cn))),(14,.i i),(15,.a (.c (.s 4 k))),(16,.i k)],hp:=[.r ⟨3,1,true,A9 p.1⟩,.r ⟨27,1,false,[.s 2 cn]⟩,.r ⟨24,1,true,Br Q⟩,.r ⟨3,1,true,A9 F⟩,.r ⟨23,2,true,AG (B.take k)⟩],n:=219,pin:=0 }) (fun k=>k<=A.length) (fun k=>A.length - k) 0 ?_ ?_ ?_
   ·omega
   ·have e1:AG []=[]:=rfl
    simp only [gBq,e1]
    exact W5
   rintro k hk K hK
   have hrl:(B.take k).length=k:=by rw [gAS];omega
   have hal:(AG (B.take k)).length=k*2:=by rw [AD,hrl]
   by_cases hlt2:k<A.length
   rotate_left
   ·have d2:=Yq hlt2
    rw [gE7 (by omega)] at hrl hal ⊢
    have hBk:B.length=k:=hrl
    have htk:(Aw B).take (k*2)=Aw B:=gE7 (by rw [A3,hBk];exact gBu _)
    have crp:=Yy Q B hQl
    have op:=Km F (i:Int)
    rw [hFl] at op
    (refine VW (an @hat (an @Bz (an @Cw (an @A3 (an @Aq @d2))))) ?_;unhygienic intros)
    refine W3 ?_
    (refine VZ ?_;repeat clear hK K)
    (refine As (B6 (r:=⟨23,2,true,AG B⟩) 4 (Aw B) rfl (DB _) (show 0<(2:Nat) by omega)) ?_;simp only [ST.frz,A0.frz,AV.frz,C.frz,gBu,gBj,gBi,go_sem,A3,Aq,hBk,htk])
    (refine Cu (an @hQc (an @hFc (an @crp @op))) ?_;(repeat clear hK K);unhygienic intros)
    refine W4 ?_
    refine hKi _ (i+1) (by omega) (by omega) ?_
    rw [hc1,hqt,hft]
    refine Le.trans (A8 [0,1,6,8] rfl rfl) ?_
    (try simp only [Yn,go_sem])
    (try simp only [A5,F2,Cc])
    exact W5
   have d2:=Yp hlt2
   have ht:=gE8 (show k<B.length by omega)
   have hBk:B[k]'(by omega)=(A[k].1,p.1.getD A[k].2.toNat 0):=by simp only [hBq,List.getElem_map]
   rw [hBk] at ht
   have a0:=DQ hlt2
   have a1:=Fq hlt2
   have hab:=hbi.2.2.1 _ (gE6 hlt2)
   generalize A[k]=a at *
   obtain ⟨e,t⟩:=a
   simp only at ht a0 a1 hab
   obtain ⟨tn,rfl⟩:∃ n:Nat,t=(n:Int):=⟨t.toNat,by omega⟩
   rw [gAd] at ht
   have htl:tn<p.1.length:=by omega
   have gc:=At (gE1 htl)
   rw [Yo htl] at ht
   generalize p.1[tn]'htl=w at *
   have ca:(AG (B.take k)).take (k*2)++[C.v (.int .i64 e),C.v (.int .i64 w)]=AG (B.take k++[(e,w)]):=by
    rw [gE7 (by rw [hal];exact gBu _)];simp [AG]
   (refine VW (an @hat (an @Bz (an @Cw (an @A3 (an @Aq @d2))))) ?_;unhygienic intros)
   refine W2 ?_
   (refine VV ?_;unhygienic intros)
   refine Yr 23 [(0,0),(1,0),(2,0),(3,0),(4,0),(5,1),(6,0),(7,0),(8,0),(9,1),(10,0),(11,0),(12,0),(13,0),(14,0),(15,1),(16,0),(17,0),(18,0),(19,1),(20,0),(21,1),(22,0),(23,2),(24,2),(25,0)] ?_
   (refine VS (an @hat (an @a0 (an @a1 (an @Bz (an @Cw (an @A3 (an @Aq (an @gc (an @hci (an @hal @ca)))))))))) ?_;repeat clear hK K)
   (refine VV ?_;(repeat clear hK K);unhygienic intros)
   refine W4 ?_
   refine hK _ (k+1) (by omega) (by omega) ?_
   rw [ht]
   refine Le.trans (A8 [0,1,2,3,6] rfl rfl) ?_
   (try simp only [Yn,go_sem])
   (try simp only [A5,F2,Cc])
   exact W5
  have d1:=Yq hlt
  have hiN:i=N.length:=by omega
  rw [hiN] at d1
  rw [hiN,hf,gE7 (by omega),gE7 (by omega)]
  have hqb:=TV hv hclN
  obtain ⟨num,k1,k2,k3,k4,k5,k6⟩:=GJ (R:=qN N p) (by omega) fun r hr a ha=>by have:=(hqb r hr).2 a ha;omega
  rw [hql] at k1
  obtain ⟨hol,hcle⟩:=ZX hv hvP.2.2.2.2.2 hclN k1 k3
  have hMz:MzP N (Y6 N p (AZ (qN N p)).1 (AZ (qN N p)).2) (p.1.map fun x=>num.getD x.toNat 0):=⟨p,num,hclN,k1,k2,k3,rfl,rfl⟩
  rw [<- hcle] at hMz
  have hcx:=YG (qN N p) (by omega) (fun r hr a ha=>by have:=(hqb r hr).2 a ha;omega) (by omega) (fun r hr=>by
   obtain ⟨jj,hjj,rfl⟩:=gB7.1 hr
   have:=(hv.2.2 _ (hv.at (hclN.idx (gBa.1 hjj)).1)).2.1
   unfold DI
   rw [gAN];omega)
  simp only [Ba] at hcx
  have hob:=fun x hx=>k1.st x hx
  clear k1 k2 k3 k5 k6 hcle
  generalize (AZ (qN N p)).1=rows at *
  generalize (AZ (qN N p)).2=old at *
  have hqc:(Br (qN N p)).length=p.2:=by rw [AH,hql]
  (refine VW (an @Bz (an @Cw @d1)) ?_;unhygienic intros)
  refine W3 ?_
  (refine VZ ?_;repeat clear hK K)
  refine As (AQ (r:=⟨24,1,true,Br (qN N p)⟩) (ri:=⟨27,1,false,[.s 2 p.2]⟩) (ts:=AK (qN N p)) 1 0 2 p.2 (by decide) rfl rfl rfl rfl (show 0<1 by omega) (by rw [hqc];exact gBB _) (GZ _)) ?_
  simp only [go_sem]
  refine As (CI 1 rfl) ?_
  simp only [Vp,gAV,gAX,go_sem]
  have hnu0:List.replicate old.length (C.v (.int .i64 0))=A9 (aG old 0):=by simp [aG,A9]
  (refine SU ?_;(repeat clear hK K);unhygienic intros)
  (refine Aj rfl ?_;intro K1 hK1;refine cs [] (hcx) ?_ ?_)
  ·rintro _ _ ⟨rfl,rfl⟩;rfl
  rintro _ _ ⟨rfl,rfl⟩
  (refine W1 ?_;clear hK1 K1)
  (refine Cu (an @A2 @hnu0) ?_;(repeat clear hK K);unhygienic intros)
  refine As (BJ 20 35 3 ?_) ?_
  ·simp only [go_sem]
  refine As (A8 [0,3,5,6,7] rfl rfl) ?_
  (try simp only [Yn,go_sem])
  (try simp only [A5])
  refine Ab (fun i:Nat=>{ tm:=[(0,.a (.c (.t 3 (tN N)))),(7,.a (.c (.s 0 N.length))),(13,.a (.c (.s 1 p.2))),(17,.a (.c (.p 2 0))),(18,.a (.c (.t 1 (Ac old)))),(19,.a (.c (.s 3 old.length))),(20,.a (.c (.s 4 i))),(21,.i i)],hp:=[.r ⟨3,1,true,A9 p.1⟩,.r ⟨3,1,true,A9 (aH p)⟩,.r ⟨27,1,false,[.t 1 (AK rows)]⟩,.r ⟨3,1,true,A9 (aG old i)⟩,.r ⟨35,3,true,cN (Y6 N p (rows.take i) old)⟩],n:=219,pin:=0 }) (fun i=>i<=old.length) (fun i=>old.length - i) 0 ?_ ?_ ?_
  ·omega
  ·have e1:cN (Y6 N p (rows.take 0) old)=[]:=rfl
   rw [e1]
   exact W5
  rintro i hi2 K hK
  have hnl:(A9 (aG old i)).length=old.length:=by rw [A4,YD]
  have hoL:(cN (Y6 N p (rows.take i) old)).length=i*3:=by rw [Im,JD (by rw [gAS];omega),gAS];omega
  by_cases hlt4:i<old.length
  ·have d4:=Yp hlt4
   have hir:i<rows.length:=by omega
   have go:=Al (gE1 hlt4)
   have hob2:=hob _ (gE6 hlt4)
   have hgo:old.getD i 0=old[i]:=Yo hlt4
   have hzs:=PO (N:=N) (p:=p) (rows:=rows.take i) (old:=old) (old2:=old) (r:=rows[i]) (s:=old[i]) (by rw [gAS];omega) (by rw [show (rows.take i).length=i from by rw [gAS];omega];exact gE1 hlt4) fun _ _ h=>h
   rw [<- gE8 hir] at hzs
   have hns:aG old (i+1)=(aG old i).set old[i].toNat i:=by rw [aG,hgo]
   have gr:=Ao (gE1 hir)
   generalize old[i]'hlt4=s at *
   generalize rows[i]'hir=r at *
   obtain ⟨sn,rfl⟩:∃ n:Nat,s=(n:Int):=⟨s.toNat,by omega⟩
   have hsp:sn<p.2:=by omega
   have gf:=At (Z6 hsp)
   have hfc:(A9 (aH p)).length=p.2:=by rw [A4,hfl]
   obtain ⟨i1,i2⟩:=hclN.idx hsp
   have hmf:Y5 N p.1 r (sn:Int)=(r,(N[p.1.idxOf (sn:Int)]'i1).2):=by unfold Y5 Y4;rw [Yo i1]
   have hat:=LF i1
   rw [hmf] at hzs
   rw [gAd] at hns
   have hns2:=hns.symm
   generalize p.1.idxOf (sn:Int)=fi at *
   generalize N[fi]'i1=x at *
   obtain ⟨A,V,dv⟩:=x
   simp only [Xo] at hat hzs
   have ca:(cN (Y6 N p (rows.take i) old)).take (i*3)++[C.t 2 (Aw r),C.t 1 (Az V),C.v (.bool dv)]=cN (Y6 N p (rows.take (i+1)) old):=by
    rw [gE7 (by rw [hoL];exact gBu _),hzs]
    exact Jh _ (r,V,dv)
   (refine VW (an @A2 @d4) ?_;unhygienic intros)
   refine W2 ?_
   (refine Cu (an @A2 (an @go (an @hnl (an @Bj (an @hns2 (an @gf (an @hfc (an @hat (an @Bz @Cw))))))))) ?_;unhygienic intros)
   refine Yr 11 [(0,0),(1,0),(2,1),(3,0),(4,0),(5,1),(6,0),(7,1),(8,0),(9,1),(10,0),(11,2),(12,2),(13,0)] ?_
   (refine SS (an @A6 (an @gr (an @hoL (an @Cw @ca)))) ?_;repeat clear hK K)
   (refine VV ?_;(repeat clear hK K);unhygienic intros)
   refine W4 ?_
   refine hK _ (i+1) (by omega) (by omega) ?_
   refine Le.trans (A8 [0,1,2,3,7] rfl rfl) ?_
   (try simp only [Yn,go_sem])
   (try simp only [A5,G5])
   exact W5
  have d4:=Yq hlt4
  have hio:i=old.length:=by omega
  rw [gE7 (by omega)] at hoL ⊢
  have htk:(tN (Y6 N p rows old)).take (i*3)=tN (Y6 N p rows old):=gE7 (by rw [Bz,JD (by omega)];omega)
  have htl:(tN (Y6 N p rows old)).length=i*3:=by rw [Bz,JD (by omega)];omega
  generalize Y6 N p rows old=out at *
  obtain ⟨g2,hg2⟩:∃ g2:Int->Int,g2=fun x=>(aG old p.2).getD x.toNat 0:=⟨_,rfl⟩
  have hgp:∀ x,g2 x=(aG old p.2).getD x.toNat 0:=fun x=>by rw [hg2]
  rw [<- hg2] at hMz
  have hml:(p.1.map g2).length=N.length:=by rw [gAN,hcl]
  have hiP:i=p.2:=by omega
  rw [hiP] at hnl ⊢
  rw [hiP] at htk htl d4
  clear hg2
  have hnul:=YD old p.2
  generalize aG old p.2=nu at *
  (refine VW (an @A2 @d4) ?_;unhygienic intros)
  refine W3 ?_
  (refine VZ ?_;repeat clear hK K)
  (refine As (B6 (r:=⟨35,3,true,cN out⟩) 4 (tN out) rfl (Pu _) (show 0<(3:Nat) by omega)) ?_;simp only [ST.frz,A0.frz,AV.frz,C.frz,gBu,gBj,gBi,go_sem,htl,Cw,htk])
  (refine VV ?_;(repeat clear hK K);unhygienic intros)
  refine Ab (fun k:Nat=>{ tm:=[(7,.a (.c (.s 0 N.length))),(19,.a (.c (.s 1 old.length))),(20,.a (.c (.t 3 (tN out)))),(23,.i k)],hp:=[.r ⟨3,1,true,A9 (Yc (p.1.map g2) p.1 k)⟩,.r ⟨3,1,true,A9 nu⟩],n:=219,pin:=0 }) (fun k=>k<=N.length) (fun k=>N.length - k) 0 ?_ ?_ ?_
  ·omega
  ·rw [Hv]
   refine Le.trans (A8 [0,3] rfl rfl) ?_
   simp only [go_sem,A5]
   exact W5
  rintro k hk K hK
  have hll:p.1.length=(p.1.map g2).length:=by rw [gAN]
  have hml2:=JB hll k (by omega)
  have hml3:(A9 (Yc (p.1.map g2) p.1 k)).length=N.length:=by rw [A4,hml2,hml]
  by_cases hlt5:k<N.length
  rotate_left
  ·have d5:=Yq hlt5
   have hkl:k=(p.1.map g2).length:=by omega
   have htk2:(Ac (p.1.map g2)).take N.length=Ac (p.1.map g2):=gE7 (by rw [A2,hml];exact gBu _)
   have htl2:(Ac (p.1.map g2)).length=N.length:=by rw [A2,hml]
   have hci2:(A9 (p.1.map g2)).length=N.length:=by rw [A4,hml]
   rw [hkl,JA hll]
   rw [hkl] at d5
   generalize p.1.map g2=cl at *
   (refine VW (an @hci2 @d5) ?_;unhygienic intros)
   refine W3 ?_
   (refine VZ ?_;repeat clear hK K)
   (refine As (B6 (r:=⟨3,1,true,A9 cl⟩) 0 (Ac cl) rfl (ES _) (show 0<(1:Nat) by omega)) ?_;simp only [ST.frz,A0.frz,AV.frz,C.frz,gBu,gBj,gBi,go_sem,htl2,htk2,Nat.div_one])
   (refine VV ?_;(repeat clear hK K);unhygienic intros)
   refine W6 [] Tryz.results60 ?_
   exact .inl ⟨hvP,out,cl,hMz,rfl⟩
  have d5:=Yp hlt5
  have hks:=JC hll (k:=k) (by omega)
  have hkp:k<p.1.length:=by omega
  have hmk:(Yc (p.1.map g2) p.1 k)[k]?=some p.1[k]:=by
   unfold Yc
   rw [gEb (by rw [gAS];omega),gAS,show k - min k (p.1.map g2).length=0 by omega,gAA,gBr,gE1 hkp]
  have gm:=At hmk
  have hpm:=hclN.mem (gE6 hkp)
  rw [List.getElem_map,hgp] at hks
  generalize p.1[k]'hkp=cc at *
  obtain ⟨cn,rfl⟩:∃ n:Nat,cc=(n:Int):=⟨cc.toNat,by omega⟩
  simp only [gAd] at hks
  have gn:=At (gE1 (show cn<nu.length by omega))
  rw [Yo (show cn<nu.length by omega)] at hks
  generalize nu[cn]'(by omega)=w at *
  (refine VW (an @hml3 @d5) ?_;unhygienic intros)
  refine W2 ?_
  (refine Cu (an @hml3 (an @gm (an @gn (an @hnl (an @Bj @hks))))) ?_;(repeat clear hK K);unhygienic intros)
  refine W4 ?_
  refine hK _ (k+1) (by omega) (by omega) ?_
  exact W5
theorem NvB.ns {N:List Xh} (h:NvB N):XI N:=by
 refine ⟨by have:=h.2.1;omega,fun x hx=>?_⟩
 obtain ⟨_,h2,_,h4,h5⟩:=h.2.2 x hx
 exact ⟨by omega,by omega,fun s hs=>by have:=(h5 s hs).1;omega⟩
theorem PreE.len {R:List (List Ar)} {m:Int} {p:List (List Nat) × List Xh} (hn:R.length<=7) (h:PreE R m p):p.1.length<=128/\p.2.length<=128:=by
 obtain ⟨K,_,hl,hP⟩:=h
 have h1:=hP.st.len
 have h2:(2:Nat) ^ R.length<=2 ^ 7:=Nat.pow_le_pow_right (by omega) hn
 have h3:=hP.n
 omega
theorem PreE.va {R:List (List Ar)} {m:Int} {p:List (List Nat) × List Xh} (hv:C7 R=true) (hm:Fy m=true) (hn:R.length<=7) (h:PreE R m p):vaP p.2 m:=
 h.valid hv hm (by omega) (by have:=(h.len hn).1;omega)
def UL (R:List (List Ar)) (m:Int) (r:AV):Prop:=
 (Fy m=true/\C7 R=true/\∃ p out cl,PreE R m p/\vaP p.2 m/\MzP p.2 out cl/\r=.tup [.c (.t 3 (tN out)),.c (.v (.int .i64 0))])
 \/ (¬ (Fy m=true/\C7 R=true)/\r=.tup [.c (.v (.slice none 0 0)),.c (.v (.int .i64 1))])
set_option maxHeartbeats 2000000 in
theorem U5 (R:List (List Ar)) (m:Int) (hn:R.length<=7) (hr:∀ r∈R,r.length<=10000):FC Tryz.prog 11 [Ba R,.i m] [] (fun r o=>o=[]/\UL R m r):=by
 refine A7 Tryz.func11 rfl (by rw [Tryz.ntmps11];simp) ?_
 rw [Tryz.ntmps11]
 simp only [B4,Ba]
 have hpre:=NE R m hn hr
 simp only [Ba] at hpre
 (refine a8 ?_;(repeat clear hK K);repeat refine kq fun K hK=>?_)
 (refine W0 hpre ?_;intro K1 hK1)
 rintro _ _ ⟨rfl,hpa⟩
 rcases hpa with ⟨hm,hv,p,hp,rfl⟩ | ⟨hno,rfl⟩
 rotate_left
 ·(refine W1 ?_;clear hK1 K1)
  have d0:((1:Int) != 0)=true:=by decide
  (refine aj @d0 ?_;repeat refine kq fun K hK=>?_)
  refine W2 ?_
  (refine ai ?_;(repeat clear hK K);repeat refine kq fun K hK=>?_)
  refine W6 [] Tryz.results11 ?_
  exact .inr ⟨hno,rfl⟩
 have hva:=hp.va hv hm hn
 have hmin:=SF p.2 m hva.nv.ns
 simp only [aN] at hmin
 (refine W1 ?_;clear hK1 K1)
 have d0:((0:Int) != 0)=false:=by decide
 (refine aj @d0 ?_;repeat refine kq fun K hK=>?_)
 refine W3 ?_
 (refine ai ?_;(repeat clear hK K);repeat refine kq fun K hK=>?_)
 (refine W0 hmin ?_;intro K1 hK1)
 rintro _ _ ⟨rfl,hma⟩
 rcases hma with ⟨_,out,cl,hz,rfl⟩ | ⟨hno,rfl⟩
 rotate_left
 ·exact absurd hva hno
 (refine W1 ?_;clear hK1 K1)
 (refine ai ?_;(repeat clear hK K);repeat refine kq fun K hK=>?_)
 refine W6 [] Tryz.results11 ?_
 exact .inl ⟨hm,hv,p,out,cl,hp,hva,hz,rfl⟩
end Go.Proofs.YtbnabodoabimnaaGreat
