/- Lemmas. -/
import Derived.Test.YtbnabodoabimnaaGreatNv5
import Derived.Test.YtbnabodoabimnaaGreatG45
import Derived.Test.YtbnabodoabimnaaGreatG53
namespace Go.Proofs.YtbnabodoabimnaaGreat
set_option linter.unusedVariables false
set_option linter.unusedSimpArgs false
open Go.RowKit
theorem NZ (l:List Ar) (a:Ar) (num old:List Int):Bp (l++[a]) num old=((AM (Bp l num old).1 (Bp l num old).2.1 a.2).1,(AM (Bp l num old).1 (Bp l num old).2.1 a.2).2,(Bp l num old).2.2++[(a.1,(AM (Bp l num old).1 (Bp l num old).2.1 a.2).1.getD a.2.toNat 0)]):=by
 induction l generalizing num old with
 | nil=>rfl
 | cons b l ih=>simp only [gAm,Bp,ih]
theorem CG {r:List Ar} (h:SortA r):CN r=r:=DR (BT r) h (Ce r)
theorem EN {A:List Ar} (h:W9 (XK A)):SortA A:=by
 have h2:A.Pairwise fun a b=>a.1<b.1:=List.pairwise_map.1 h
 exact h2.imp fun {a b} q=>DA.2 (.inl q)
theorem St {α:Type} [DecidableEq α] (f:Nat->α) (k:Nat):∀ j:Nat,j<(WE f k).2->∃ s,s<k/\(WE f k).1.getD s 0=(j:Int):=by
 induction k with
 | zero=>intro j hj;exact absurd hj (Nat.not_lt_zero _)
 | succ k ih=>
  intro j hj
  have hl:=(BK f k).len
  rcases EE f k with ⟨t,h1,h2,h3,h4⟩ | ⟨h3,h4⟩
  ·rw [h4] at hj ⊢
   obtain ⟨s,hs,e⟩:=ih j hj
   exact ⟨s,by omega,by rw [Bs (by omega)];exact e⟩
  rw [h4] at hj ⊢
  simp only at hj ⊢
  by_cases hq:j<(WE f k).2
  rotate_left
  ·exact ⟨k,by omega,by rw [Cg hl.symm];omega⟩
  obtain ⟨s,hs,e⟩:=ih j hq
  exact ⟨s,by omega,by rw [Bs (by omega)];exact e⟩
theorem PN {α:Type} [DecidableEq α] (f:Nat->α) (k:Nat):(WE f (k+1)).1.getD 0 0=0:=by
 induction k with
 | zero=>rfl
 | succ k ih=>
  have hl:=(BK f (k+1)).len
  rcases EE f (k+1) with ⟨t,h1,h2,h3,h4⟩ | ⟨h3,h4⟩
  ·rw [h4,Bs (by omega)];exact ih
  rw [h4,Bs (by omega)];exact ih
def DI (N:List Xh) (c:List Int) (s:Nat):List Ar:=(N.getD s nz).1.map fun a=>(a.1,c.getD a.2.toNat 0)
def qN (N:List Xh) (p:List Int × Nat):List (List Ar):=(List.range p.2).map fun j:Nat=>DI N p.1 (p.1.idxOf (j:Int))
theorem Iw (N:List Xh) (p:List Int × Nat):(qN N p).length=p.2:=by simp [qN]
theorem ClN.nm {N:List Xh} {p:List Int × Nat} (h:ClN N p):∃ (g:Nat->List Int),WE g N.length=p:=by
 obtain ⟨k,rfl,_⟩:=h
 cases k with
 | zero=>exact ⟨_,rfl⟩
 | succ k=>exact ⟨_,rfl⟩
theorem ClN.len {N:List Xh} {p:List Int × Nat} (h:ClN N p):p.1.length=N.length:=by
 obtain ⟨g,rfl⟩:=h.nm
 exact (BK _ _).len
theorem ClN.cnt {N:List Xh} {p:List Int × Nat} (h:ClN N p):p.2<=N.length:=by
 obtain ⟨g,rfl⟩:=h.nm
 exact (BK _ _).cnt
theorem ClN.rng {N:List Xh} {p:List Int × Nat} (h:ClN N p) {s:Nat} (hs:s<N.length):0<=p.1.getD s 0/\p.1.getD s 0<(p.2:Int):=by
 obtain ⟨g,rfl⟩:=h.nm
 exact (BK _ _).rng s hs
theorem ClN.mem {N:List Xh} {p:List Int × Nat} (h:ClN N p) {x:Int} (hx:x∈p.1):0<=x/\x<(p.2:Int):=by
 obtain ⟨s,hs,rfl⟩:=gAG hx
 have:=h.rng (s:=s) (by rw [<- h.len];exact hs)
 rwa [gE2,gE1 hs] at this
theorem ClN.zero {N:List Xh} {p:List Int × Nat} (h:ClN N p) (hN:1<=N.length):p.1.getD 0 0=0:=by
 obtain ⟨g,rfl⟩:=h.nm
 obtain ⟨n,hn⟩:∃ n,N.length=n+1:=⟨N.length - 1,by omega⟩
 rw [hn]
 exact PN g n
theorem ClN.one {N:List Xh} {p:List Int × Nat} (h:ClN N p) (hN:1<=N.length):1<=p.2:=by
 have:=h.rng (s:=0) hN
 rw [h.zero hN] at this
 omega
theorem ClN.idx {N:List Xh} {p:List Int × Nat} (h:ClN N p) {j:Nat} (hj:j<p.2):p.1.idxOf (j:Int)<N.length/\p.1.getD (p.1.idxOf (j:Int)) 0=j:=by
 have hm:(j:Int)∈p.1:=by
  obtain ⟨g,rfl⟩:=h.nm
  obtain ⟨s,hs,e⟩:=St g N.length j hj
  rw [<- e,gE2,gE1 (by rw [h.len];exact hs)]
  exact gE6 _
 have hl:p.1.idxOf (j:Int)<p.1.length:=List.idxOf_lt_length_iff.2 hm
 refine ⟨by rw [<- h.len];exact hl,?_⟩
 rw [gE2,gE1 hl,gBF]
 exact List.getElem_idxOf hl
theorem ClN.eq {N:List Xh} {p:List Int × Nat} (h:ClN N p) {s t:Nat} (hs:s<N.length) (ht:t<N.length) (e:p.1.getD s 0=p.1.getD t 0):(N.getD s nz).2=(N.getD t nz).2/\DI N p.1 s=DI N p.1 t:=by
 obtain ⟨k,rfl,hk⟩:=h
 have h2:=Sr.1 (Qw N k s t hs ht e)
 have e2:(Y3 N (k+1)).1.getD s 0=(Y3 N (k+1)).1.getD t 0:=by rw [hk];exact e
 have h3:=((BK (fun s=>(Y1 N (Y3 N k).1).getD s []) N.length).eq s t hs ht).1 e2
 simp only [F5 hs,F5 ht] at h3
 have hl:(N.getD s nz).1.length=(N.getD t nz).1.length:=by
  have:=congrArg List.length h2.2.2
  rwa [BS,BS] at this
 exact ⟨Prod.ext h2.2.1 h2.1,((Ss hl).1 h3).2⟩
def NvB (N:List Xh):Prop:=1<=N.length/\N.length<=4096/\∀ x∈N,W9 (XK x.1)/\x.1.length<=1025/\(∀ a∈x.1,0<a.1/\a.1<=1025/\0<=a.2/\a.2<(N.length:Int))/\x.2.1.length<=1024/\∀ s∈x.2.1,s.length<=1025/\∀ e∈s,0<=e/\e<=1025
theorem Qx {N:List Xh} {p:List Int × Nat} {j:Nat} (hj:j<p.2):(qN N p)[j]?=some (DI N p.1 (p.1.idxOf (j:Int))):=by
 unfold qN
 rw [gAC,List.getElem?_range hj];rfl
theorem NvB.at {N:List Xh} (h:NvB N) {s:Nat} (hs:s<N.length):(N.getD s nz)∈N:=by
 rw [gE2,gE1 hs]
 exact gE6 hs
theorem Hu {N:List Xh} {p:List Int × Nat} (hN:NvB N) (h:ClN N p) {s:Nat} (hs:s<N.length):SortA (DI N p.1 s)/\∀ a∈DI N p.1 s,0<a.1/\a.1<=1025/\0<=a.2/\a.2<(p.2:Int):=by
 have hx:=hN.2.2 _ (hN.at hs)
 refine ⟨EN ?_,fun a ha=>?_⟩
 ·have:XK (DI N p.1 s)=XK (N.getD s nz).1:=by unfold XK DI;rw [gAW];rfl
  rw [this];exact hx.1
 obtain ⟨b,hb,rfl⟩:=gB7.1 ha
 have h1:=hx.2.2.1 b hb
 have h2:=h.rng (s:=b.2.toNat) (by omega)
 exact ⟨h1.1,h1.2.1,h2.1,h2.2⟩
theorem TV {N:List Xh} {p:List Int × Nat} (hN:NvB N) (h:ClN N p):∀ r∈qN N p,SortA r/\∀ a∈r,0<a.1/\a.1<=1025/\0<=a.2/\a.2<((qN N p).length:Int):=by
 intro r hr
 obtain ⟨j,hj,rfl⟩:=gB7.1 hr
 have hj:=gBa.1 hj
 rw [Iw]
 exact Hu hN h (h.idx hj).1
def Y4 (N:List Xh) (c:List Int) (s:Int):List (List Int) × Bool:=(N.getD (c.idxOf s) nz).2
def Y5 (N:List Xh) (c:List Int) (r:List Ar) (s:Int):Xh:=(r,Y4 N c s)
def Y6 (N:List Xh) (p:List Int × Nat) (rows:List (List Ar)) (old:List Int):List Xh:=List.zipWith (Y5 N p.1) rows old
theorem Su {N:List Xh} {p:List Int × Nat} {A:List (List Ar)} {B:List Int} {j:Nat} (h:j<(Y6 N p A B).length) (ha:j<A.length) (hb:j<B.length):(Y6 N p A B)[j]=Y5 N p.1 A[j] B[j]:=List.getElem_zipWith
def MzP (N out:List Xh) (cl:List Int):Prop:=∃ p num,ClN N p/\NumOk p.2 num (AZ (qN N p)).2/\NumInj num (AZ (qN N p)).2/\NumSur num (AZ (qN N p)).2/\out=Y6 N p (AZ (qN N p)).1 (AZ (qN N p)).2/\cl=p.1.map fun x=>num.getD x.toNat 0
theorem ClN.lb {N:List Xh} {p:List Int × Nat} (h:ClN N p) {s:Nat} (hs:s<N.length):Y4 N p.1 (p.1.getD s 0)=(N.getD s nz).2/\(qN N p).getD (p.1.getD s 0).toNat []=DI N p.1 s:=by
 have hr:=h.rng hs
 obtain ⟨j,hj⟩:∃ j:Nat,p.1.getD s 0=(j:Int):=⟨(p.1.getD s 0).toNat,by omega⟩
 rw [hj] at hr ⊢
 have hjl:j<p.2:=by omega
 obtain ⟨i1,i2⟩:=h.idx hjl
 have he:=h.eq i1 hs (by rw [i2,hj])
 refine ⟨he.1,?_⟩
 rw [gAd,gE2,Qx hjl]
 exact he.2
structure StO (N:List Xh) (c st old:List Int):Prop where
 len:st.length=old.length
 at_:∀ (j:Nat) (s:Int),st[j]?=some s->0<=s/\s<(N.length:Int)/\old[j]?=some (c.getD s.toNat 0)
theorem StO.snoc {N:List Xh} {c st old:List Int} (h:StO N c st old) {t x:Int} (h0:0<=t) (h1:t<(N.length:Int)) (hx:c.getD t.toNat 0=x):StO N c (st++[t]) (old++[x]):=by
 refine ⟨by simp [h.len],fun j s hs=>?_⟩
 rcases gBx j st.length with hj | hj
 ·rw [gEa hj] at hs
  rw [gEa (by rw [<- h.len];exact hj)]
  exact h.at_ j s hs
 rw [gEb hj] at hs
 have hj2:j=st.length:=by
  have:=(List.getElem?_eq_some_iff.1 hs).1
  simp at this;omega
 subst hj2
 simp at hs
 subst hs
 exact ⟨h0,h1,by rw [h.len,gEb (gBu _),gBC,hx];rfl⟩
structure MzI (N:List Xh) (p:List Int × Nat) (i:Nat) (num old st:List Int) (rows:List (List Ar)):Prop where
 nok:NumOk p.2 num old
 inj:NumInj num old
 sur:NumSur num old
 st:StO N p.1 st old
 ol:rows.length=i
 le:i<=old.length
 can:CO (qN N p) (p.2 - i) i num old rows=AZ (qN N p)
theorem MzI.zero {N:List Xh} {p:List Int × Nat} (hN:1<=N.length) (h:ClN N p):MzI N p 0 ((List.replicate p.2 (-1)).set 0 0) [0] [0] []:=by
 have h1:=h.one hN
 refine ⟨NumOk.start h1,NumInj.start h1,NumSur.start h1,⟨rfl,fun j s hs=>?_⟩,rfl,by simp,?_⟩
 rotate_left
 ·unfold AZ
  rw [Iw];rfl
 cases j with
 | succ j=>simp at hs
 | zero=>
  simp at hs;subst hs
  exact ⟨by omega,by omega,by rw [show (0:Int).toNat=0 from rfl,h.zero hN];rfl⟩
theorem PO {N:List Xh} {p:List Int × Nat} {rows:List (List Ar)} {old old2:List Int} {r:List Ar} {s:Int} (hl:rows.length<old.length) (hs:old[rows.length]?=some s) (ho:∀ (j:Nat) (x:Int),old[j]?=some x->old2[j]?=some x):Y6 N p (rows++[r]) old2=Y6 N p rows old++[Y5 N p.1 r s]:=by
 unfold Y6
 have key:∀ (rows:List (List Ar)) (old old2:List Int),rows.length<old.length->old[rows.length]?=some s->(∀ (j:Nat) (x:Int),old[j]?=some x->old2[j]?=some x)->List.zipWith (Y5 N p.1) (rows++[r]) old2=List.zipWith (Y5 N p.1) rows old++[Y5 N p.1 r s]:=by
  intro rows
  induction rows with
  | nil=>
   intro old old2 h1 h2 h3
   have h4:=h3 0 s h2
   cases old2 with
   | nil=>simp at h4
   | cons y old2=>
    simp at h4
    subst h4
    rfl
  | cons q rows ih=>
   intro old old2 h1 h2 h3
   cases old with
   | nil=>simp at h1
   | cons x old=>
    have h4:=h3 0 x rfl
    cases old2 with
    | nil=>simp at h4
    | cons y old2=>
     simp at h4
     subst h4
     simp only [gAm,List.zipWith_cons_cons]
     rw [ih old old2 (by simpa using h1) (by simpa using h2) fun j z hz=>by have:=h3 (j+1) z (by simpa using hz);simpa using this]
 exact key rows old old2 hl hs ho
theorem MzI.step {N:List Xh} {p:List Int × Nat} {i:Nat} {num old st:List Int} {rows:List (List Ar)} (hN:NvB N) (hc:ClN N p) (h:MzI N p i num old st rows) {s:Int} (hs:st[i]?=some s) {st2:List Int} (hst:StO N p.1 st2 (Bp (DI N p.1 s.toNat) num old).2.1):
  MzI N p (i+1) (Bp (DI N p.1 s.toNat) num old).1 (Bp (DI N p.1 s.toNat) num old).2.1 st2 (rows++[(Bp (DI N p.1 s.toNat) num old).2.2])/\
  Y6 N p (rows++[(Bp (DI N p.1 s.toNat) num old).2.2]) (Bp (DI N p.1 s.toNat) num old).2.1=Y6 N p rows old++[((Bp (DI N p.1 s.toNat) num old).2.2,(N.getD s.toNat nz).2)]:=by
 obtain ⟨q1,q2,q3⟩:=h.st.at_ i s hs
 have hsl:s.toNat<N.length:=by omega
 obtain ⟨b1,b2⟩:=Hu hN hc hsl
 obtain ⟨l1,l2⟩:=hc.lb hsl
 have hr:=hc.rng hsl
 have hle:=h.nok.le
 have hil:i<old.length:=(List.getElem?_eq_some_iff.1 q3).1
 have hb:∀ a∈DI N p.1 s.toNat,0<=a.2/\a.2<(num.length:Int):=fun a ha=>by have:=b2 a ha;rw [h.nok.len];omega
 have hN2:=NumOk.go (DI N p.1 s.toNat) [] h.nok (fun a ha=>by have:=b2 a ha;omega)
 rw [CE] at hN2
 have hgr:=Iv (DI N p.1 s.toNat) num old
 obtain ⟨m1,m2⟩:=H9 (old:=old) _ hb
 have hso:SortA (Bp (DI N p.1 s.toNat) num old).2.2:=by
  refine EN ?_
  rw [m1]
  have hx:=hN.2.2 _ (hN.at hsl)
  have:XK ((DI N p.1 s.toNat).map fun a=>(a.1,(Bp (DI N p.1 s.toNat) num old).1.getD a.2.toNat 0))=XK (N.getD s.toNat nz).1:=by
   unfold XK
   rw [gAW]
   unfold DI
   rw [gAW];rfl
  rw [this];exact hx.1
 refine ⟨⟨hN2,H8 _ hb h.inj,KX _ hb h.sur,hst,by simp [h.ol],by omega,?_⟩,?_⟩
 rotate_left
 ·rw [PO (old:=old) (by rw [h.ol];exact hil) (by rw [h.ol];exact q3) fun j x hx=>Ht _ hx]
  unfold Y5
  rw [l1]
 have hrow:(qN N p)[(p.1.getD s.toNat 0).toNat]?=some (DI N p.1 s.toNat):=by
  have hj:(p.1.getD s.toNat 0).toNat<(qN N p).length:=by rw [Iw];omega
  rw [gE1 hj]
  rw [gE2,gE1 hj] at l2
  exact congrArg some l2
 have hst2:=Lw (rows:=qN N p) (n:=p.2) (num:=num) (out:=rows) (by omega) q3 hrow rfl
 rw [CG b1,CE] at hst2
 simp only at hst2
 have hfo:(Bp (DI N p.1 s.toNat) num old).2.2.foldl (fun acc a=>E5 a acc) []=(Bp (DI N p.1 s.toNat) num old).2.2:=CG hso
 rw [hfo] at hst2
 rw [<- hst2]
 exact h.can
theorem MzI.done {N:List Xh} {p:List Int × Nat} {i:Nat} {num old st:List Int} {rows:List (List Ar)} (hc:ClN N p) (h:MzI N p i num old st rows) (hi:old.length<=i):MzP N (Y6 N p rows old) (p.1.map fun x=>num.getD x.toNat 0):=by
 have h1:=h.can
 rw [Lu hi] at h1
 have e1:(AZ (qN N p)).1=rows:=by rw [<- h1]
 have e2:(AZ (qN N p)).2=old:=by rw [<- h1]
 exact ⟨p,num,hc,by rw [e2];exact h.nok,by rw [e2];exact h.inj,by rw [e2];exact h.sur,by rw [e1,e2],rfl⟩
theorem KY:∀ {A:List Ar} {f g:Int},XL f A=some g->f<=g/\∀ t,f<=t->t<g->∃ a∈A,a.2=t
 | [],f,g,h=>by
  simp only [XL,gBI] at h
  subst h
  exact ⟨gAc _,fun t h1 h2=>by omega⟩
 | a :: A,f,g,h=>by
  rw [XL] at h
  split at h
  ·cases h
  ·rename_i hn
   obtain ⟨h1,h2⟩:=KY h
   refine ⟨?_,fun t h3 h4=>?_⟩
   ·split at h1 <;> omega
   ·by_cases e:a.2=t
    ·exact ⟨a,gB3,e⟩
    ·obtain ⟨b,hb,e2⟩:=h2 t (by split <;> omega) h4
     exact ⟨b,gEf _ hb,e2⟩
theorem Qy:∀ {N:List Xh} {f:Int} {i:Nat},(i:Int)<=f->XM f i N=true->∀ t:Int,f<=t->t<(i:Int)+N.length->∃ j,j<N.length/\((i+j:Nat):Int)<t/\∃ a∈(N.getD j nz).1,a.2=t
 | [],f,i,hi,h,t,h1,h2=>by
  simp only [gAO] at h2
  omega
 | x :: N,f,i,hi,h,t,h1,h2=>by
  rw [XM] at h
  split at h
  ·cases h
  ·rename_i hn
   cases hg:XL f x.1 with
   | none=>rw [hg] at h;cases h
   | some g=>
    rw [hg] at h
    obtain ⟨h3,h4⟩:=KY hg
    by_cases ht:t<g
    ·obtain ⟨a,ha,e⟩:=h4 t h1 ht
     exact ⟨0,by simp,by omega,a,by simpa using ha,e⟩
    ·obtain ⟨j,q1,q2,q3⟩:=Qy (i:=i+1) (by omega) h t (by omega) (by simp only [gAJ] at h2;omega)
     exact ⟨j+1,by simp;omega,by omega,by simpa using q3⟩
theorem PP {N:List Xh} {p:List Int × Nat} (hN:NvB N) (hn:XM 1 0 N=true) (hc:ClN N p):∀ t,t<N.length->p.1.getD t 0∈(AZ (qN N p)).2:=by
 have h1:=hc.one hN.1
 obtain ⟨num,k1,k2,k3,k4,k5,k6⟩:=GJ (R:=qN N p) (by rw [Iw];exact h1) fun r hr a ha=>by have:=(TV hN hc r hr).2 a ha;omega
 intro t
 induction t using Nat.strongRecOn with
 | ind t ih=>
  intro ht
  by_cases h0:t=0
  ·subst h0
   rw [hc.zero hN.1]
   exact gE9 k5
  obtain ⟨s,q1,q2,a,ha,q3⟩:=Qy (by decide) hn (t:Int) (by omega) (by omega)
  have hst:s<t:=by omega
  obtain ⟨j,hj,he⟩:=gAG (ih s hst q1)
  have hjr:j<(AZ (qN N p)).1.length:=by omega
  have hrow:=(k6 j _ _ (by rw [gE1 hj,he]) (gE1 hjr)).2
  rw [(hc.lb q1).2] at hrow
  obtain ⟨x,hx,hp⟩:=hrow (a.1,p.1.getD a.2.toNat 0) (gB7.2 ⟨a,ha,rfl⟩)
  have h5:=k2.inj _ x hx hp
  have h6:((p.1.getD a.2.toNat 0).toNat:Int)=p.1.getD t 0:=by
   have:=hc.rng ht
   rw [q3,gAd]
   omega
  simp only at h5
  rw [h6] at h5
  exact gE9 h5
theorem YY {N:List Xh} {p:List Int × Nat} (hN:NvB N) (hn:XM 1 0 N=true) (hc:ClN N p) {j:Nat} (hj:j<p.2):(j:Int)∈(AZ (qN N p)).2:=by
 obtain ⟨i1,i2⟩:=hc.idx hj
 rw [<- i2]
 exact PP hN hn hc _ i1
theorem MzP.uniq {N o1 o2:List Xh} {c1 c2:List Int} (hN:NvB N) (hn:XM 1 0 N=true) (h1:MzP N o1 c1) (h2:MzP N o2 c2):o1=o2/\c1=c2:=by
 obtain ⟨p,n1,a1,a2,a3,a4,a5,a6⟩:=h1
 obtain ⟨q,n2,b1,b2,b3,b4,b5,b6⟩:=h2
 have e:=a1.uniq b1
 subst e
 refine ⟨by rw [a5,b5],?_⟩
 rw [a6,b6]
 refine gAU fun x hx=>?_
 obtain ⟨s,hs,rfl⟩:=gAG hx
 have h3:=PP hN hn a1 s (by rw [<- a1.len];exact hs)
 rw [gE2,gE1 hs,gBF] at h3
 obtain ⟨j,hj,he⟩:=gAG h3
 have hg:=(gE1 hj).trans (congrArg some he)
 rw [gE2,gE2,(a4 j _ hg).2,(b4 j _ hg).2]
theorem Jw {n:Nat}:∀ {L:List Int} {l:Int},W9 L->(∀ x∈L,l<x/\x<=l+(n:Int))->L.length<=n:=by
 induction n with
 | zero=>
  intro L l h hx
  cases L with
  | nil=>exact gBu _
  | cons a L=>have:=hx a gB3;omega
 | succ n ih=>
  intro L l h hx
  cases L with
  | nil=>exact gBE _
  | cons a L=>
   have hp:=gBe.1 h
   have h1:=hx a gB3
   have:=ih (L:=L) (l:=l+1) hp.2 fun x hxm=>by
    have h2:=hp.1 x hxm
    have h3:=hx x (gEf _ hxm)
    omega
   simp only [gAJ];omega
theorem PQ {A:List Ar} {Y:List (List Int)} (h:XR A Y=true) (hA:W9 (XK A)) (hb:∀ a∈A,0<a.1/\a.1<=1025):Y.length<=1024/\∀ s∈Y,s.length<=1025/\∀ e∈s,0<=e/\e<=1025:=by
 obtain ⟨h1,h2,_,_⟩:=Hq.1 h
 refine ⟨h1,fun s hs=>?_⟩
 obtain ⟨w1,w2⟩:=G7.1 (h2 s hs).1
 have hb2:∀ e∈s,0<e/\e<=0+((1025:Nat):Int):=fun e he=>by
  obtain ⟨a,ha,rfl⟩:=gB7.1 (w2 e he)
  have:=hb a ha;omega
 exact ⟨Jw w1 hb2,fun e he=>by have:=hb2 e he;omega⟩
theorem vaP.nv {N:List Xh} {m:Int} (h:vaP N m):NvB N:=by
 obtain ⟨_,h1,h2,_,h3,_⟩:=h
 refine ⟨h1,h2,fun x hx=>?_⟩
 obtain ⟨a1,a2⟩:=h3 x hx
 obtain ⟨b1,b2⟩:=KT a1
 have hl:x.1.length<=1025:=by
  rw [<- BS]
  refine Jw (l:=0) b1 fun e he=>?_
  obtain ⟨a,ha,rfl⟩:=gB7.1 he
  have:=b2 a ha;omega
 have hse:x.2.1.length<=1024/\∀ s∈x.2.1,s.length<=1025/\∀ e∈s,0<=e/\e<=1025:=by
  have hemp:x.2.1.isEmpty=true->x.2.1.length<=1024/\∀ s∈x.2.1,s.length<=1025/\∀ e∈s,0<=e/\e<=1025:=fun q=>by
   rw [List.isEmpty_iff.1 q]
   exact ⟨by simp,by simp⟩
  have hac:XR x.1 x.2.1=true->x.2.1.length<=1024/\∀ s∈x.2.1,s.length<=1025/\∀ e∈s,0<=e/\e<=1025:=fun q=>PQ q b1 fun a ha=>by have:=b2 a ha;omega
  unfold XT at a2
  split at a2
  ·simp only [gA1] at a2;exact hemp a2.1
  split at a2
  ·simp only [gA1] at a2;exact hac a2.2
  split at a2
  ·simp only [gA1] at a2;exact hemp a2.2
  simp only [gA1] at a2;exact hac a2.2
 exact ⟨b1,hl,fun a ha=>by have:=b2 a ha;omega,hse.1,hse.2⟩
theorem MzP.nb {N out:List Xh} {cl:List Int} (hN:NvB N) (h:MzP N out cl):XI out/\out.length<=N.length/\cl.length=N.length:=by
 obtain ⟨p,num,hc,a2,a3,a4,rfl,rfl⟩:=h
 have h1:=hc.one hN.1
 have hcn:=hc.cnt
 have hle:=a2.le
 obtain ⟨num',k1,k2,k3,k4,k5,k6⟩:=GJ (R:=qN N p) (by rw [Iw];exact h1) fun r hr a ha=>by have:=(TV hN hc r hr).2 a ha;omega
 have hln:(Y6 N p (AZ (qN N p)).1 (AZ (qN N p)).2).length<=N.length:=by
  unfold Y6
  rw [List.length_zipWith]
  omega
 have hNl:=hN.2.1
 refine ⟨⟨by omega,fun x hx=>?_⟩,hln,by rw [gAN,hc.len]⟩
 obtain ⟨j,hj,rfl⟩:=gAG hx
 have hj2:=hj
 unfold Y6 at hj2
 rw [List.length_zipWith] at hj2
 have hjr:j<(AZ (qN N p)).1.length:=by omega
 have hjo:j<(AZ (qN N p)).2.length:=by omega
 rw [Su hj hjr hjo]
 obtain ⟨r1,r2⟩:=k6 j _ _ (gE1 hjo) (gE1 hjr)
 have hs:=a2.st _ (gE6 hjo)
 generalize (AZ (qN N p)).2[j]=s at *
 generalize (AZ (qN N p)).1[j]=r at *
 obtain ⟨sn,rfl⟩:∃ n:Nat,s=(n:Int):=⟨s.toNat,by omega⟩
 obtain ⟨i1,i2⟩:=hc.idx (j:=sn) (by omega)
 have hx2:=hN.2.2 _ (hN.at i1)
 have hq:(qN N p).getD sn []=DI N p.1 (p.1.idxOf (sn:Int)):=by rw [gE2,Qx (by omega)];rfl
 have hrl:r.length<=1025:=by
  rw [r1,gAd,hq]
  refine gBv (Yv _) ?_
  rw [gAN]
  refine gBv (Yv _) ?_
  unfold DI
  rw [gAN]
  exact hx2.2.1
 unfold Y5 Y4
 refine ⟨by simp only;omega,by have:=hx2.2.2.2.1;simp only;omega,fun t ht=>?_⟩
 have:=(hx2.2.2.2.2 t ht).1
 omega
def Y7 (f:Nat->Nat) (c:Nat) (o:List (List Ar)) (a:Ar):List (List Ar):=o.set c (E5 (a.1,(f a.2.toNat:Int)) (o.getD c []))
def ab (f:Nat->Nat) (c:Nat) (o:List (List Ar)) (row:List Ar):List (List Ar):=row.foldl (Y7 f c) o
theorem Sv (f:Nat->Nat) (c:Nat) (o:List (List Ar)) (a:Ar):(Y7 f c o a).length=o.length:=by simp [Y7]
def SameS (o p:List (List Ar)):Prop:=o.length=p.length/\∀ i a,a∈o.getD i []↔a∈p.getD i []
theorem SameS.one {f:Nat->Nat} {c:Nat} {o p:List (List Ar)} (h:SameS o p) (a:Ar):SameS (Y7 f c o a) (Wn f c p a):=by
 refine ⟨by rw [Sv,Rl];exact h.1,fun i b=>?_⟩
 have h1:=h.1
 unfold Y7 Wn
 simp only [gE2,gAE]
 by_cases hi:c=i
 rotate_left
 ·rw [if_neg hi,if_neg hi]
  have h2:=h.2 i b
  simpa only [gE2] using h2
 subst hi
 by_cases hc:c<o.length
 rotate_left
 ·rw [if_pos rfl,if_neg hc,if_pos rfl,if_neg (by omega)]
 have h2:=h.2 c b
 simp only [gE2] at h2
 rw [if_pos rfl,if_pos hc,if_pos rfl,if_pos (by omega)]
 simp only [gBF,Fo,gB0,gBb,h2,or_comm]
theorem SameS.row {f:Nat->Nat} {c:Nat}:∀ (row:List Ar) {o p:List (List Ar)},SameS o p->SameS (ab f c o row) (aa f c p row)
 | [],_,_,h=>h
 | a :: r,_,_,h=>SameS.row r (h.one a)
def Y8 (f:Nat->Nat) (c:Nat) (a:Ar):Option Ar:=if a.1 ≠ 0\/f a.2.toNat ≠ c then some (a.1,(f a.2.toNat:Int)) else none
def Y9 (b:Bool) (c:Nat):Option Ar:=if b then some (0,(c:Int)) else none
def QA (R:List (List Ar)) (f:Nat->Nat) (k d:Nat) (a:Ar):Prop:=∃ s,s<k/\f s=d/\∃ b∈R.getD s [],Y8 f d b=some a
def QL (f:Nat->Nat) (B:List Bool) (k d:Nat) (a:Ar):Prop:=a=(0,(d:Int))/\∃ s,s<k/\f s=d/\B.getD s false=true
theorem QA.succ {R:List (List Ar)} {f:Nat->Nat} {k d:Nat} {a:Ar}:QA R f (k+1) d a↔QA R f k d a\/(d=f k/\∃ b∈R.getD k [],Y8 f (f k) b=some a):=by
 constructor
 rotate_left
 ·rintro (⟨s,h1,h2,h3⟩ | ⟨rfl,h3⟩)
  ·exact ⟨s,by omega,h2,h3⟩
  exact ⟨k,by omega,rfl,h3⟩
 rintro ⟨s,h1,h2,h3⟩
 by_cases e:s=k
 ·subst e;subst h2;exact .inr ⟨rfl,h3⟩
 exact .inl ⟨s,by omega,h2,h3⟩
theorem QL.succ {f:Nat->Nat} {B:List Bool} {k d:Nat} {a:Ar}:QL f B (k+1) d a↔QL f B k d a\/(d=f k/\Y9 (B.getD k false) (f k)=some a):=by
 unfold QL Y9
 constructor
 ·rintro ⟨h0,s,h1,h2,h3⟩
  by_cases e:s=k
  ·subst e;subst h2;exact .inr ⟨rfl,by rw [if_pos h3,h0]⟩
  exact .inl ⟨h0,s,by omega,h2,h3⟩
 rintro (⟨h0,s,h1,h2,h3⟩ | ⟨rfl,h3⟩)
 ·exact ⟨h0,s,by omega,h2,h3⟩
 split at h3
 rotate_left
 ·cases h3
 rename_i hb
 injection h3 with h3
 exact ⟨h3.symm,k,by omega,rfl,hb⟩
def MtK {α:Type} (A:List (List Ar)) (kA:Nat->α) (B:List (List Ar)) (kB:Nat->α):Prop:=
 ∀ s t,s<A.length->t<B.length->kA s=kB t->(Dv A s->Dv B t)/\∀ a∈(EG A).getD s [],∃ b∈(EG B).getD t [],b.1=a.1/\kB b.2.toNat=kA a.2.toNat
theorem Qz {R:List (List Ar)} (hv:C7 R=true) (hn:R.length<=100) {s:Nat} (hs:s<R.length) {a:Ar} (h:a∈(EG R).getD s []):0<=a.2/\a.2.toNat<R.length:=by
 have hb:=Jf hv hn
 have hm:(EG R).getD s []∈EG R:=by
  rw [gE2,gE1 (by omega),gBF]
  exact gE6 _
 have:=(hb.2 _ hm).2 a h
 omega
theorem QB {α:Type} {R:List (List Ar)} {k:Nat->α} (hv:C7 R=true) (hn:R.length<=100) (hk:MtK R k R k) {c:List Int} (ih:∀ s t,s<R.length->t<R.length->k s=k t->c.getD s 0=c.getD t 0) {s t:Nat} (hs:s<R.length) (ht:t<R.length) (h:k s=k t):SW c ((EG R).getD s []) ((EG R).getD t [])=true:=by
 unfold SW
 refine gAg.2 fun a ha=>?_
 obtain ⟨b,hb,e1,e2⟩:=(hk s t hs ht h).2 a ha
 unfold Up
 refine gAi.2 ⟨b,hb,?_⟩
 rw [e1,ih _ _ (Qz hv hn ht hb).2 (Qz hv hn hs ha).2 e2]
 simp
theorem MtK.le {α:Type} {R:List (List Ar)} {k:Nat->α} (hv:C7 R=true) (hn:R.length<=100) (hk:MtK R k R k) {c:List Int} (hc:DlC R c) {s t:Nat} (hs:s<R.length) (ht:t<R.length) (h:k s=k t):c.getD s 0=c.getD t 0:=by
 obtain ⟨B,hB,i,hi,-⟩:=hc
 have hb:=Jf hv hn
 subst hi
 induction i generalizing s t with
 | zero=>
  show (WS B R.length).getD s 0=(WS B R.length).getD t 0
  rw [Hj hs,Hj ht]
  have e:B.getD s false=B.getD t false:=by
   rw [gA4,hB.2 s hs,hB.2 t ht]
   exact ⟨(hk s t hs ht h).1,(hk t s ht hs h.symm).1⟩
  unfold WR
  rw [e]
 | succ i ih=>
  have ih2:=fun s t hs ht h=>ih (s:=s) (t:=t) hs ht h
  have e:=(BK (WG (EG R) (WI (EG R) (WS B R.length) i)) (EG R).length).eq s t (by omega) (by omega)
  refine e.2 ?_
  unfold WG
  rw [ih hs ht h,Nd.2 ⟨QB hv hn hk ih2 hs ht h,QB hv hn hk ih2 ht hs h.symm⟩]
theorem DlC.key {R:List (List Ar)} (hv:C7 R=true) (hn:R.length<=100) {c:List Int} (hc:DlC R c):MtK R (fun s=>c.getD s 0) R (fun s=>c.getD s 0):=by
 obtain ⟨B,hB,i,hi,hf⟩:=hc
 have hb:=Jf hv hn
 intro s t hs ht h
 simp only at h ⊢
 have e:=(BK (WG (EG R) c) (EG R).length).eq s t (by omega) (by omega)
 have e0:(WE (WG (EG R) c) (EG R).length).1=c:=hf
 rw [e0] at e
 have e2:=congrArg Prod.snd (e.1 h)
 obtain ⟨c1,-⟩:=Nd.1 e2
 refine ⟨fun hd=>?_,fun a ha=>?_⟩
 rotate_left
 ·obtain ⟨b,hb2,hq⟩:=gAi.1 (gAg.1 c1 a ha)
  simp only [gA1,beq_iff_eq] at hq
  exact ⟨b,hb2,hq.1,hq.2⟩
 have hdv:∀ j,(WI (EG R) (WS B R.length) j).getD s 0=(WI (EG R) (WS B R.length) j).getD t 0->(WS B R.length).getD s 0=(WS B R.length).getD t 0:=by
  intro j
  induction j with
  | zero=>exact id
  | succ j ih=>intro q;exact ih (congrArg Prod.fst (((BK (WG (EG R) (WI (EG R) (WS B R.length) j)) (EG R).length).eq s t (by omega) (by omega)).1 q))
 have q:=hdv i (by rw [<- hi];exact h)
 rw [Hj hs,Hj ht] at q
 refine (hB.2 t ht).1 ?_
 have h2:=(hB.2 s hs).2 hd
 unfold WR at q
 rw [h2] at q
 generalize B.getD 0 false=x0 at q
 generalize B.getD t false=x1 at q ⊢
 revert q
 cases x0 <;> cases x1 <;> decide
/-! Side by side. -/
/-! The quotient. -/
structure QuX (R X:List (List Ar)) (f kX:Nat->Nat):Prop where
 inj:∀ i j,i<X.length->j<X.length->kX i=kX j->i=j
 sur:∀ j,j<X.length->∃ s,s<R.length/\f s=kX j
 fw:∀ s j,s<R.length->j<X.length->f s=kX j->∀ b∈R.getD s [],(b.1 ≠ 0\/f b.2.toNat ≠ f s)->∃ i:Nat,i<X.length/\(b.1,(i:Int))∈X.getD j []/\kX i=f b.2.toNat
 bw:∀ j (a:Ar),j<X.length->a∈X.getD j []->∃ i:Nat,i<X.length/\a.2=(i:Int)/\((∃ s,s<R.length/\f s=kX j/\∃ b∈R.getD s [],b.1=a.1/\f b.2.toNat=kX i/\(a.1 ≠ 0\/kX i ≠ kX j))\/(a.1=0/\i=j/\∃ s,s<R.length/\f s=kX j/\Dv R s))
 lp:∀ s j,s<R.length->j<X.length->f s=kX j->Dv R s->(0,(j:Int))∈X.getD j []
section
variable {R X : List (List Ar)} {f kX : Nat -> Nat}
theorem Sw (hv:C7 R=true) {s:Nat} {b:Ar} (hb:b∈R.getD s []):0<=b.2/\b.2.toNat<R.length:=by
 have hlo:=(gE4 hv).1
 have hs:s<R.length:=by
  by_cases e:s<R.length
  ·exact e
  rw [gE2,gAB (by omega)] at hb
  simp at hb
 rw [gE2,gE1 hs,gBF] at hb
 have h:=hlo.2.2.2 _ (gE6 hs) b hb
 omega
theorem QuX.path (h:QuX R X f kX) (hR:C7 R=true) (hX:C7 X=true) {s u j:Nat} (hs:s<R.length) (hj:j<X.length) (e:f s=kX j) (hr:Rc (Wi true R) s u):∃ i,i<X.length/\Rc (Wi true X) j i/\kX i=f u:=by
 have hE:=Dq true (gEg (gE4 hR).1:BZ R=true)
 induction hr with
 | refl=>exact ⟨j,hj,.refl _,e.symm⟩
 | @tail u w hu hw ih=>
  obtain ⟨i,hi,hp,ei⟩:=ih
  have hw2:=(G2 hR).1 hw
  by_cases hc:f w=f u
  ·exact ⟨i,hi,hp,by rw [ei,hc]⟩
  obtain ⟨i2,h1,h2,h3⟩:=h.fw u i (hu.lt hs hE) hi ei.symm _ hw2 (.inr (by simpa using hc))
  exact ⟨i2,h1,hp.tail ((G2 hX).2 h2),by rw [h3];simp⟩
theorem QuX.mt1 (h:QuX R X f kX) (hR:C7 R=true) (hX:C7 X=true):MtK R f X kX:=by
 have hE:=Dq true (gEg (gE4 hR).1:BZ R=true)
 intro s j hs hj e
 refine ⟨fun ⟨g,hg,hd⟩=>?_,fun a ha=>?_⟩
 ·obtain ⟨i,hi,hp,ei⟩:=h.path hR hX hs hj e hg
  have hl:=h.lp g i (hg.lt hs hE) hi ei.symm ⟨g,.refl _,hd⟩
  exact ⟨i,hp,i,(G2 hX).2 hl,.refl _⟩
 rcases (EH hR hs).1 ha with ⟨h0,u,hu,hr⟩ | ⟨h0,t,hr,hb⟩
 ·obtain ⟨i,hi,hp,ei⟩:=h.path hR hX hs hj e hr
  exact ⟨(0,(i:Int)),(EH hX hj).2 (.inl ⟨rfl,i,rfl,hp⟩),h0.symm,by rw [hu];simpa using ei⟩
 obtain ⟨i,hi,hp,ei⟩:=h.path hR hX hs hj e hr
 obtain ⟨i2,h1,h2,h3⟩:=h.fw t i (hr.lt hs hE) hi ei.symm _ hb (.inl h0)
 exact ⟨(a.1,(i2:Int)),(EH hX hj).2 (.inr ⟨h0,i,hp,h2⟩),rfl,by simpa using h3⟩
theorem QuX.step (h:QuX R X f kX) (hR:C7 R=true) (hX:C7 X=true) (hk:MtK R f R f) {i j:Nat} {u:Nat} (hu:u<R.length) (hj:j<X.length) (e:f u=kX j) (hi:i∈Wi true X j):i<X.length/\∃ v,v<R.length/\Rc (Wi true R) u v/\f v=kX i:=by
 have hE:=Dq true (gEg (gE4 hR).1:BZ R=true)
 obtain ⟨i',h1,h2,h3⟩:=h.bw j _ hj ((G2 hX).1 hi)
 have hii:i=i':=by simp only at h2;omega
 subst hii
 refine ⟨h1,?_⟩
 rcases h3 with ⟨s,hs,es,b,hb,eb,fb,_⟩ | ⟨_,rfl,_⟩
 rotate_left
 ·exact ⟨u,hu,.refl _,e⟩
 have hbl:=Sw hR hb
 have hb2:b∈R.getD s []:=hb
 have hbs:(0,b.2)∈(EG R).getD s []:=(EH hR hs).2 (.inl ⟨rfl,b.2.toNat,by simp only;omega,.one ((G2 hR).2 (by
  obtain ⟨x,y⟩:=b
  simp only at eb hbl ⊢
  subst eb
  rw [Int.toNat_of_nonneg hbl.1]
  exact hb))⟩)
 obtain ⟨c,hc,e1,e2⟩:=(hk s u hs hu (by rw [es,e])).2 _ hbs
 rcases (EH hR hu).1 hc with ⟨_,v,hv,hr⟩ | ⟨h0,_⟩
 ·exact ⟨v,hr.lt hu hE,hr,by rw [hv] at e2;simp only [gAd] at e2;rw [e2,fb]⟩
 exact absurd e1 h0
theorem QuX.back (h:QuX R X f kX) (hR:C7 R=true) (hX:C7 X=true) (hk:MtK R f R f) {i j:Nat} {u:Nat} (hu:u<R.length) (hj:j<X.length) (e:f u=kX j) (hr:Rc (Wi true X) j i):i<X.length/\∃ v,v<R.length/\Rc (Wi true R) u v/\f v=kX i:=by
 induction hr with
 | refl=>exact ⟨hj,u,hu,.refl _,e⟩
 | tail _ hw ih=>
  obtain ⟨h1,v,hv,hp,ev⟩:=ih
  obtain ⟨h2,w,hw2,hp2,ew⟩:=h.step hR hX hk hv h1 ev hw
  exact ⟨h2,w,hw2,hp.trans hp2,ew⟩
theorem Sx (hR:C7 R=true) {P:Nat->Prop} (hP:∀ u,u<R.length->P u->∃ w v,w∈Wi true R u/\Rc (Wi true R) w v/\v<R.length/\P v):∀ (n u:Nat),u<R.length->P u->X1 R u<=n->Dv R u:=by
 intro n
 induction n with
 | zero=>
  intro u hu _ hr
  exfalso
  have hp:0<(List.range R.length).countP fun x=>@decide (Rc (Wi true R) u x) (Classical.propDecidable _):=List.countP_pos_iff.2 ⟨u,gBa.2 hu,@decide_eq_true _ (Classical.propDecidable _) (Rc.refl u)⟩
  unfold X1 at hr
  omega
 | succ n ih=>
  intro u hu hp hr
  obtain ⟨w,v,hw,hwv,hvl,hv⟩:=hP u hu hp
  by_cases hb:Rc (Wi true R) v u
  ·exact ⟨u,.refl _,w,hw,hwv.trans hb⟩
  have huv:Rc (Wi true R) u v:=(Rc.one hw).trans hwv
  have hlt:X1 R v<X1 R u:=Il (fun x _ hx=>@decide_eq_true _ (Classical.propDecidable _) (huv.trans (@of_decide_eq_true _ (Classical.propDecidable _) hx))) u (gBa.2 hu) (@decide_eq_true _ (Classical.propDecidable _) (Rc.refl u)) (@gBK _ (Classical.propDecidable _) hb)
  obtain ⟨g,hg,hd⟩:=ih v hvl hv (by omega)
  exact ⟨g,huv.trans hg,hd⟩
theorem Zd {E:Nat->List Nat} {u v:Nat} (h:Rc E u v) (hne:u ≠ v):∃ w,w∈E u/\Rc E w v:=by
 induction h with
 | refl=>exact absurd rfl hne
 | @tail a b hab hb ih=>
  by_cases e:u=a
  ·subst e;exact ⟨b,hb,.refl _⟩
  obtain ⟨w,h1,h2⟩:=ih e
  exact ⟨w,h1,h2.tail hb⟩
theorem QuX.mt2 (h:QuX R X f kX) (hR:C7 R=true) (hX:C7 X=true) (hk:MtK R f R f):MtK X kX R f:=by
 have hE:=Dq true (gEg (gE4 hR).1:BZ R=true)
 intro j s hj hs e
 refine ⟨fun ⟨i,hi,w,hw,hwi⟩=>?_,fun a ha=>?_⟩
 ·obtain ⟨hil,u,hu,hp,eu⟩:=h.back hR hX hk hs hj e.symm hi
  obtain ⟨i',h1,h2,h3⟩:=h.bw i _ hil ((G2 hX).1 hw)
  have hii:w=i':=by simp only at h2;omega
  subst hii
  have hdu:Dv R u:=by
   rcases h3 with ⟨_,_,_,_,_,_,_,hor⟩ | ⟨_,rfl,s',hs',es',hd⟩
   rotate_left
   ·exact (hk s' u hs' hu (by rw [es',eu])).1 hd
   have hne:kX w ≠ kX i:=by simpa using hor
   refine Sx hR (P:=fun u=>f u=kX i) (fun u hu eu=>?_) _ u hu eu (gBu _)
   obtain ⟨_,x,hx,hux,ex⟩:=h.step hR hX hk hu hil eu hw
   obtain ⟨_,y,hy,hxy,ey⟩:=h.back hR hX hk hx h1 ex hwi
   obtain ⟨z,hz,hzx⟩:=Zd hux (fun q=>hne (by rw [<- ex,<- q,eu]))
   exact ⟨z,y,hz,hzx.trans hxy,hy,ey⟩
  obtain ⟨g,hg,hd⟩:=hdu
  exact ⟨g,hp.trans hg,hd⟩
 rcases (EH hX hj).1 ha with ⟨h0,i,hi,hr⟩ | ⟨h0,i,hr,hb⟩
 ·obtain ⟨_,v,hv,hp,ev⟩:=h.back hR hX hk hs hj e.symm hr
  exact ⟨(0,(v:Int)),(EH hR hs).2 (.inl ⟨rfl,v,rfl,hp⟩),h0.symm,by rw [hi];simpa using ev⟩
 obtain ⟨hil,v,hv,hp,ev⟩:=h.back hR hX hk hs hj e.symm hr
 obtain ⟨i',h1,h2,h3⟩:=h.bw i a hil hb
 rcases h3 with ⟨s',hs',es',b,hb2,eb,fb,_⟩ | ⟨h9,_⟩
 rotate_left
 ·exact absurd h9 h0
 have hbs:b∈(EG R).getD s' []:=(EH hR hs').2 (.inr ⟨by rw [eb];exact h0,s',.refl _,hb2⟩)
 obtain ⟨c,hc,e1,e2⟩:=(hk s' v hs' hv (by rw [es',ev])).2 _ hbs
 rcases (EH hR hv).1 hc with ⟨h8,_⟩ | ⟨_,t,ht,hct⟩
 ·exact absurd (by rw [<- eb,<- e1,h8]) h0
 exact ⟨c,(EH hR hs).2 (.inr ⟨by rw [e1,eb];exact h0,t,hp.trans ht,hct⟩),by rw [e1,eb],by rw [e2,fb,h2];simp⟩
theorem QuX.min (h:QuX R X f kX) (hR:C7 R=true) (hX:C7 X=true) (hn:R.length<=100) (hk:MtK R f R f) {c x:List Int} (hc:DlC R c) (hf:∀ s t,s<R.length->t<R.length->c.getD s 0=c.getD t 0->f s=f t) (hXn:X.length<=100) (hx:DlC X x) {i j:Nat} (hi:i<X.length) (hj:j<X.length) (e:x.getD i 0=x.getD j 0):i=j:=by
 classical
 let k:Nat->Int ⊕ Nat:=fun s=>if q:∃ j,j<X.length/\kX j=f s then .inl (x.getD q.choose 0) else .inr (f s)
 have k1:∀ s j,j<X.length->kX j=f s->k s=.inl (x.getD j 0):=fun s j hj e=>by
  have q:∃ j,j<X.length/\kX j=f s:=⟨j,hj,e⟩
  have:=h.inj _ _ q.choose_spec.1 hj (by rw [q.choose_spec.2,e])
  show (if q:∃ j,j<X.length/\kX j=f s then Sum.inl (x.getD q.choose 0) else .inr (f s))=_
  rw [dif_pos q,this]
 have k2:∀ s,(¬ ∃ j,j<X.length/\kX j=f s)->k s=.inr (f s):=fun s q=>dif_neg q
 have k3:∀ s t,f s=f t->k s=k t:=fun s t e=>by show (if q:∃ j,j<X.length/\kX j=f s then Sum.inl (x.getD q.choose 0) else Sum.inr (f s))=if q:∃ j,j<X.length/\kX j=f t then Sum.inl (x.getD q.choose 0) else Sum.inr (f t);rw [e]
 have hm1:=h.mt1 hR hX
 have hm2:=h.mt2 hR hX hk
 have hkx:=DlC.key hX hXn hx
 have hkk:MtK R k R k:=fun s t hs ht e=>by
  by_cases q:∃ j,j<X.length/\kX j=f s
  rotate_left
  ·by_cases q2:∃ j,j<X.length/\kX j=f t
   ·obtain ⟨j,hj,ej⟩:=q2
    rw [k2 s q,k1 t j hj ej] at e;simp at e
   rw [k2 s q,k2 t q2] at e
   obtain ⟨d1,d2⟩:=hk s t hs ht (Sum.inr.inj e)
   refine ⟨d1,fun a ha=>?_⟩
   obtain ⟨b,hb,p1,p2⟩:=d2 a ha
   exact ⟨b,hb,p1,k3 _ _ p2⟩
  obtain ⟨i,hi,ei⟩:=q
  have e1:=k1 s i hi ei
  by_cases q2:∃ j,j<X.length/\kX j=f t
  rotate_left
  ·rw [e1,k2 t q2] at e;simp at e
  obtain ⟨j,hj,ej⟩:=q2
  have e2:=k1 t j hj ej
  have e3:x.getD i 0=x.getD j 0:=by rw [e1,e2] at e;exact Sum.inl.inj e
  refine ⟨fun d=>(hm2 j t hj ht ej).1 ((hkx i j hi hj e3).1 ((hm1 s i hs hi ei.symm).1 d)),fun a ha=>?_⟩
  obtain ⟨b1,hb1,p1,p2⟩:=(hm1 s i hs hi ei.symm).2 a ha
  obtain ⟨b2,hb2,p3,p4⟩:=(hkx i j hi hj e3).2 b1 hb1
  obtain ⟨b3,hb3,p5,p6⟩:=(hm2 j t hj ht ej).2 b2 hb2
  refine ⟨b3,hb3,by rw [p5,p3,p1],?_⟩
  rw [k1 _ _ (Qz hX hXn hj hb2).2 p6.symm,k1 _ _ (Qz hX hXn hi hb1).2 p2]
  exact congrArg _ p4
 obtain ⟨s,hs,es⟩:=h.sur i hi
 obtain ⟨t,ht,et⟩:=h.sur j hj
 refine h.inj i j hi hj ?_
 rw [<- es,<- et]
 exact hf s t hs ht (hkk.le hR hn hc hs ht (by rw [k1 s i hi es.symm,k1 t j hj et.symm,e]))
end
theorem O0 {L:List (List Int)} (hL:∀ s∈L,W9 s):D2 (D2 L)=D2 L:=by
 have hM:∀ s∈D2 L,W9 s:=fun s hs=>hL s (Ca hs)
 refine FO (D7 _) (D7 L) fun s=>?_
 rw [CU hM]
 refine ⟨fun h=>h.1,fun h=>⟨h,?_⟩⟩
 rw [CA hM (hM s h)]
 exact fun o ho hsub=>(CA hL (hM s h)).1 ((CU hL s).1 h).2 o (Ca ho) hsub
theorem Jx {n:Int}:∀ {A:List Ar} {l:Int},W9 (XK A)->(∀ a∈A,l<a.1/\a.1<=1025/\0<=a.2/\a.2<n)->LW n l A=true
 | [],_,_,_=>rfl
 | a :: A,l,h,hb=>by
  have h1:=hb a gB3
  have hp:=gBe.1 (show (a.1 :: XK A).Pairwise (· < ·) from h)
  rw [LW,if_neg (by omega)]
  refine Jx hp.2 fun b hbm=>?_
  have h2:=hb b (gEf _ hbm)
  have h3:=hp.1 b.1 (gB7.2 ⟨b,hbm,rfl⟩)
  omega
theorem Jy {R:List (List Ar)} {X:List Nat} {y:List Int}:y∈Xg R X↔∃ s∈X,(Gd (R.getD s [])).2=true/\(Gd (R.getD s [])).1=y:=by
 unfold Xg
 rw [List.mem_filterMap]
 refine exists_congr fun s=>and_congr_right fun _=>?_
 split
 rotate_left
 ·rename_i h
  exact ⟨fun e=>(by cases e),fun e=>absurd e.1 h⟩
 rename_i h
 exact ⟨fun e=>⟨h,Option.some.inj e⟩,fun e=>congrArg some e.2⟩
theorem TW {R:List (List Ar)} {X:List Nat} {A:List Ar} (hb:∀ r∈R,∀ a∈r,0<=a.1/\a.1<=1025) (hX:∀ s∈X,s<R.length) (hXl:X.length<=1024) (hA:XK A=Xf R X):XR A (D2 (Xg R X))=true:=by
 have hok:=Ip hb hX
 have hasc:∀ s∈Xg R X,W9 s:=fun s hs=>(hok s hs).1
 have hmem:∀ y∈Xg R X,(∀ e∈y,e∈Xf R X)/\¬ (1<y.length/\(1:Int)∈y):=fun y hy=>by
  obtain ⟨s,hs,h1,rfl⟩:=Jy.1 hy
  unfold Gd at h1 ⊢
  split
  ·rename_i h
   obtain ⟨a,ha,e⟩:=C9.1 h
   refine ⟨fun x hx=>?_,by simp⟩
   rw [gBb.1 hx]
   exact Dm.2 ⟨s,hs,a,ha,by omega,e⟩
  rename_i h
  rw [if_neg h] at h1
  split
  ·exact ⟨by simp,by simp⟩
  rename_i h0
  refine ⟨fun x hx=>?_,fun q=>h q.2⟩
  obtain ⟨a,ha,e⟩:=C9.1 hx
  exact Dm.2 ⟨s,hs,a,ha,fun z=>h0 (C9.2 ⟨a,ha,z⟩),e⟩
 refine Hq.2 ⟨?_,fun s hs=>⟨G7.2 ⟨hasc s (Ca hs),fun x hx=>?_⟩,(hmem s (Ca hs)).2⟩,?_,O0 hasc⟩
 ·have:=Es (Xg R X)
  have:=Ei R X
  omega
 ·rw [hA];exact (hmem s (Ca hs)).1 x hx
 by_cases h1:(1:Int)∈XK A
 rotate_left
 ·rw [gBK h1,Bool.false_and]
 rw [gEg h1,gAa]
 rw [hA] at h1
 obtain ⟨s,hs,a,ha,h0,e⟩:=Dm.1 h1
 have hin:[1]∈Xg R X:=Jy.2 ⟨s,hs,by
  have:(1:Int)∈WD (R.getD s []):=C9.2 ⟨a,ha,e⟩
  unfold Gd
  rw [if_pos this];exact ⟨rfl,rfl⟩⟩
 obtain ⟨t,ht,hsub⟩:=CV hasc 1 (by simp) hin
 cases hall:(D2 (Xg R X)).all fun s=>!XP s with
 | false=>rfl
 | true=>
  have:=gAg.1 hall t ht
  cases t with
  | nil=>simp [XP] at this
  | cons e t=>
   have he:=gBb.1 (hsub e gB3)
   rw [he] at this
   simp [XP] at this
theorem PR {A:List Ar} {a:Ar}:∀ {f g:Int},XL f A=some g->XL f (A++[a])=XL g [a]:=by
 induction A with
 | nil=>intro f g h;simp only [XL,gBI] at h;rw [h];rfl
 | cons b A ih=>
  intro f g h
  rw [XL] at h
  rw [gAm,XL]
  split at h
  ·cases h
  rename_i hn
  rw [if_neg hn]
  exact ih h
theorem TX {R:List (List Ar)} {X:List Nat} {S:List (List Nat)} (L:List Int):∀ (p:List Ar × List (List Nat)),XL (S.length:Nat) p.1=some ((p.2.length:Nat):Int)->XL (S.length:Nat) (L.foldl (LV R X) p).1=some ((((L.foldl (LV R X) p).2.length:Nat):Int):Int):=by
 induction L with
 | nil=>intro p h;exact h
 | cons e L ih=>
  intro p h
  rw [gAw]
  refine ih _ ?_
  unfold LV
  simp only
  rw [PR h]
  unfold Xi Xk
  by_cases hx:EP R X e∈p.2
  rotate_left
  ·rw [if_neg hx,List.idxOf_eq_length hx]
   simp only [XL]
   rw [if_neg (by omega),if_pos (by omega)]
   simp
  have hl:=List.idxOf_lt_length_iff.2 hx
  rw [if_pos hx]
  simp only [XL]
  rw [if_neg (by omega),if_neg (by omega)]
theorem TY {R:List (List Ar)} {m:Int} {X:List Nat} {S:List (List Nat)}:XL (S.length:Nat) (Xn R m X S).1.1=some ((((Xn R m X S).2.length:Nat):Int):Int):=by
 unfold Xn
 split
 ·rfl
 exact TX _ ([],S) rfl
theorem LN {R:List (List Ar)} {m:Int} {j:Nat} (h:(B8 R m j).1.length<=j):∀ i,j<=i->B8 R m i=B8 R m j:=by
 intro i
 induction i with
 | zero=>intro hj;rw [show j=0 by omega]
 | succ i ih=>
  intro hj
  by_cases e:j=i+1
  ·rw [e]
  have h1:=ih (by omega)
  rw [EK (by rw [h1];exact gAB (by omega)),h1]
theorem O3 {R:List (List Ar)} {m:Int} {p:List (List Nat) × List Xh} {K:Nat} (hK:B8 R m K=p) (hl:p.1.length=K):(∀ j,j<K->j<(B8 R m j).1.length)/\(∀ j,j<=K->PrI R j (B8 R m j))/\∀ j,j<K->∃ X,(B8 R m j).1[j]?=some X/\p.2[j]?=some (Xn R m X (B8 R m j).1).1/\(B8 R m (j+1)).1=(Xn R m X (B8 R m j).1).2:=by
 have h1:∀ j,j<K->j<(B8 R m j).1.length:=fun j hj=>by
  refine Nat.lt_of_not_le fun q=>?_
  have:=LN q K (by omega)
  rw [hK] at this
  rw [<- this] at q
  omega
 have h2:∀ j,j<=K->PrI R j (B8 R m j):=by
  intro j
  induction j with
  | zero=>intro _;exact PrI.zero R m
  | succ j ih=>intro hj;exact (ih (by omega)).step (h1 j (by omega))
 refine ⟨h1,h2,fun j hj=>?_⟩
 have hg:=gE1 (h1 j hj)
 have hs:=C0 hg
 refine ⟨_,hg,?_,by rw [hs]⟩
 obtain ⟨Xj,hXj⟩:∃ x,(B8 R m j).1[j]'(h1 j hj)=x:=⟨_,rfl⟩
 rw [hXj] at hs ⊢
 have h3:∀ i,j+1<=i->i<=K->(B8 R m i).2[j]?=some (Xn R m Xj (B8 R m j).1).1:=by
  intro i
  induction i with
  | zero=>intro q;omega
  | succ i ih=>
   intro q1 q2
   by_cases e:j=i
   ·subst e
    rw [hs]
    simp only
    rw [gEb (by rw [(h2 j (by omega)).n];exact gBu _),(h2 j (by omega)).n,gBC];rfl
   rw [C0 (gE1 (h1 i (by omega)))]
   simp only
   rw [gEa (by rw [(h2 i (by omega)).n];omega)]
   exact ih (by omega) (by omega)
 have:=h3 K (by omega) (gBu _)
 rwa [hK] at this
theorem Ux {R:List (List Ar)} {X:List Nat} (hv:C7 R=true) (L:List Int):∀ (p:List Ar × List (List Nat)),(∀ e∈L,e∈Xf R X)->(∀ Y∈p.2,Y ≠ [])->∀ Y∈(L.foldl (LV R X) p).2,Y ≠ []:=by
 induction L with
 | nil=>intro p _ h;exact h
 | cons e L ih=>
  intro p hL h
  rw [gAw]
  refine ih _ (fun x hx=>hL x (gEf _ hx)) ?_
  intro Y hY
  have hY2:Y∈Xk p.2 (EP R X e):=hY
  unfold Xk at hY2
  have hne:EP R X e ≠ []:=by
   obtain ⟨s,hs,a,ha,_,he⟩:=Dm.1 (hL e gB3)
   have hsl:s<R.length:=by
    refine Nat.lt_of_not_le fun q=>?_
    rw [gE2,gAB q] at ha
    simp at ha
   have hr:R.getD s []=R[s]:=by rw [gE2,gE1 hsl];rfl
   have hb:=(gE4 hv).1.2.2.2 _ (gE6 hsl) a (by rw [<- hr];exact ha)
   have hm:a.2.toNat∈EP R X e:=EJ.2 ⟨by omega,a.2.toNat,Yx.2 ⟨s,hs,DF.2 ⟨a,ha,he,rfl⟩⟩,.refl _⟩
   intro q
   rw [q] at hm
   simp at hm
  split at hY2
  ·exact h Y hY2
  rcases gB0.1 hY2 with q | q
  ·exact h Y q
  rw [gBb.1 q];exact hne
theorem Sy {R:List (List Ar)} {m:Int} (hv:C7 R=true):∀ k,∀ Y∈(B8 R m k).1,Y ≠ []:=by
 intro k
 induction k with
 | zero=>
  intro Y hY
  have h0:Y=WL R 0:=gBb.1 hY
  have h1:0<R.length:=(gE4 hv).1.1
  have:0∈WL R 0:=CZ.2 ⟨h1,.refl 0⟩
  intro q
  rw [<- h0,q] at this
  simp at this
 | succ k ih=>
  intro Y hY
  cases hg:(B8 R m k).1[k]? with
  | none=>rw [EK hg] at hY;exact ih Y hY
  | some X=>
   rw [C0 hg] at hY
   simp only at hY
   unfold Xn at hY
   split at hY
   ·exact ih Y hY
   exact Ux hv _ ([],_) (fun e he=>he) ih Y hY
theorem Sz {B:List (List Ar)} (hB:C7 B=true) {t:Nat} (ht:t<B.length) (hd:¬ Dv B t):∃ u,Rc (Wi true B) t u/\u<B.length/\Wi true B u=[]:=by
 have hE:=Dq true (gEg (gE4 hB).1:BZ B=true)
 by_cases h:∃ u,Rc (Wi true B) t u/\u<B.length/\Wi true B u=[]
 ·exact h
 exfalso
 refine hd (Sx hB (P:=fun y=>Rc (Wi true B) t y) (fun y hy hr=>?_) _ t ht (.refl _) (gBu _))
 cases e:Wi true B y with
 | nil=>exact absurd ⟨y,hr,hy,e⟩ h
 | cons w l=>
  have hw:w∈Wi true B y:=by rw [e];exact gB3
  exact ⟨w,w,by rw [<- e];exact hw,.refl _,hE _ hy _ hw,hr.tail hw⟩
theorem TZ {R:List (List Ar)} {m:Int} {X:List Nat} {S:List (List Nat)} (hv:C7 R=true) (hm:Fy m=true) (hS:StI R S) (hX:ClS R X) (hne:X ≠ []) (hn:R.length<=1024):XT (Xn R m X S).1 m=true/\W9 (XK (Xn R m X S).1.1)/\(∀ a∈(Xn R m X S).1.1,0<a.1/\a.1<=1025)/\(Xn R m X S).1.1.length<=1025:=by
 have hbd:=(gE4 hv).1.2.2.2
 have hb:∀ r∈R,∀ a∈r,0<=a.1/\a.1<=1025:=fun r hr a ha=>by have:=hbd r hr a ha;omega
 unfold Xn
 split
 ·rename_i hd
  refine ⟨?_,List.Pairwise.nil,by simp,by simp⟩
  unfold XT
  rw [if_neg (by omega),if_neg (by omega)];rfl
 rename_i hd
 have hA:=(ArI.all hS X (Xf R X)).ev
 have hasc:W9 (XK (Xl R X (Xf R X) S).1):=by unfold XK;rw [hA];exact Hm R X
 have hev:∀ a∈(Xl R X (Xf R X) S).1,0<a.1/\a.1<=1025:=fun a ha=>by
  have h1:a.1∈Xf R X:=by rw [<- hA];exact gB7.2 ⟨a,ha,rfl⟩
  obtain ⟨s,hs,b,hbm,h0,e⟩:=Dm.1 h1
  have hsl:=hX.lt s hs
  rw [gE2,gE1 hsl] at hbm
  have:=hb _ (gE6 hsl) b hbm
  omega
 refine ⟨?_,hasc,hev,?_⟩
 rotate_left
 ·rw [<- BS]
  refine Jw (l:=0) hasc fun e he=>?_
  obtain ⟨a,ha,rfl⟩:=gB7.1 he
  have:=hev a ha;omega
 have hac:=TW (X:=X) (A:=(Xl R X (Xf R X) S).1) hb hX.lt (by have:=hX.len;omega) hA
 unfold XT
 simp only
 by_cases h1:m=1
 ·rw [if_pos h1,if_pos h1];rfl
 rw [if_neg h1,if_neg h1]
 by_cases h2:m=2
 ·rw [if_pos h2,hac];rfl
 rw [if_neg h2,if_neg (by decide),hac,gA3]
 have h3:m=3:=by
  unfold Fy at hm
  simp only [Bool.or_eq_true,beq_iff_eq] at hm
  omega
 have hnd:Xm R X=false:=by
  cases q:Xm R X with
  | false=>rfl
  | true=>exact absurd ⟨h3,q⟩ hd
 obtain ⟨t,ht⟩:∃ t,t∈X:=by
  cases X with
  | nil=>exact absurd rfl hne
  | cons t _=>exact ⟨t,gB3⟩
 have htl:=hX.lt t ht
 have htd:¬ Dv R t:=fun q=>by
  unfold Xm at hnd
  exact @of_decide_eq_false _ (Classical.propDecidable _) hnd ⟨t,ht,q⟩
 obtain ⟨u,hu,hul,hun⟩:=Sz hv htl htd
 have huX:=hX.2 t ht u hul hu
 have h0:¬ (0:Int)∈WD (R.getD u []):=fun q=>by
  obtain ⟨a,ha,e⟩:=C9.1 q
  have hr:R.getD u []=R[u]:=by rw [gE2,gE1 hul];rfl
  have hbd2:=hbd _ (gE6 hul) a (by rw [<- hr];exact ha)
  have:a.2.toNat∈Wi true R u:=(G2 hv).2 (by
   have e2:((a.2.toNat:Nat):Int)=a.2:=by omega
   rw [e2,<- e];exact ha)
  rw [hun] at this
  simp at this
 have hin:(Gd (R.getD u [])).1∈Xg R X:=Jy.2 ⟨u,huX,by
  unfold Gd
  split
  ·exact ⟨rfl,rfl⟩
  ·exact ⟨rfl,rfl⟩⟩
 obtain ⟨z,hz,_⟩:=CV (fun s hs=>((Ip hb hX.lt) s hs).1) _ (gBu _) hin
 cases hq:D2 (Xg R X) with
 | nil=>rw [hq] at hz;simp at hz
 | cons _ _=>rfl
theorem Jz {n:Nat}:∀ {N:List Xh},(∀ x∈N,x.1.length<=n)->Fe N<=N.length*n
 | [],_=>by simp [Fe]
 | x :: N,h=>by
  have h1:=Jz (N:=N) fun y hy=>h y (gEf _ hy)
  have h2:=h x gB3
  have:Fe (x :: N)=x.1.length+Fe N:=by unfold Fe;simp
  rw [this,gAJ,Nat.succ_mul]
  omega
theorem PreE.valid {R:List (List Ar)} {m:Int} {p:List (List Nat) × List Xh} (hv:C7 R=true) (hm:Fy m=true) (hn:R.length<=1024) (hs:p.1.length<=255) (h:PreE R m p):vaP p.2 m:=by
 obtain ⟨K,hK,hl,hP⟩:=h
 obtain ⟨h1,h2,h3⟩:=O3 hK hl
 have hN:=hP.n
 have hK1:1<=K:=by
  have:=(List.getElem?_eq_some_iff.1 hP.z).1
  omega
 have hst:∀ j (hj:j<K),∃ X,(B8 R m j).1[j]?=some X/\p.2[j]?=some (Xn R m X (B8 R m j).1).1/\(B8 R m (j+1)).1=(Xn R m X (B8 R m j).1).2/\XT (Xn R m X (B8 R m j).1).1 m=true/\W9 (XK (Xn R m X (B8 R m j).1).1.1)/\(∀ a∈(Xn R m X (B8 R m j).1).1.1,0<a.1/\a.1<=1025)/\(Xn R m X (B8 R m j).1).1.1.length<=1025:=fun j hj=>by
  obtain ⟨X,a1,a2,a3⟩:=h3 j hj
  have hXm:=gE9 a1
  exact ⟨X,a1,a2,a3,TZ hv hm (h2 j (by omega)).st ((h2 j (by omega)).st.cl X hXm) (Sy hv j X hXm) hn⟩
 have hall:∀ x∈p.2,XT x m=true/\W9 (XK x.1)/\(∀ a∈x.1,0<a.1/\a.1<=1025)/\x.1.length<=1025:=fun x hx=>by
  obtain ⟨j,hj,rfl⟩:=gAG hx
  obtain ⟨X,_,a2,_,a4⟩:=hst j (by omega)
  rw [gE1 hj] at a2
  rw [Option.some.inj a2]
  exact a4
 have hto:=hP.to
 refine ⟨hm,by omega,by omega,?_,fun x hx=>⟨?_,(hall x hx).1⟩,?_⟩
 ·refine gBv (Jz fun x hx=>(hall x hx).2.2.2) ?_
  have:p.2.length*1025<=255*1025:=gBz (by omega) (gBu _)
  omega
 ·refine Jx (hall x hx).2.1 fun a ha=>?_
  have q1:=(hall x hx).2.2.1 a ha
  have q2:=hto x hx a ha
  omega
 have key:∀ d,d<=K->XM ((B8 R m (K - d)).1.length:Nat) (K - d) (p.2.drop (K - d))=true:=by
  intro d
  induction d with
  | zero=>
   intro _
   rw [Nat.sub_zero,gAq (by omega)];rfl
  | succ d ih=>
   intro hd
   have ih2:=ih (by omega)
   obtain ⟨j,hj⟩:∃ j,j=K - (d+1):=⟨_,rfl⟩
   have hj2:K - d=j+1:=by omega
   rw [hj2] at ih2
   rw [<- hj]
   have hjK:j<K:=by omega
   obtain ⟨X,_,a2,a3,_⟩:=hst j hjK
   have hjl:j<p.2.length:=by omega
   rw [gE1 hjl] at a2
   rw [gAp hjl,XM,if_neg (by have:=h1 j hjK;omega),Option.some.inj a2,TY,<- a3]
   exact ih2
 have:=key K (gBu _)
 rw [gBC] at this
 exact this
def Ya (R:List (List Ar)):List Xh:=R.map fun r=>(r,[],false)
theorem KZ:∀ {N:List Xh} {f:Int} {i:Nat},XM f i N=XM f i (Ya (N.map (·.1)))
 | [],_,_=>rfl
 | x :: N,f,i=>by
  rw [show Ya ((x :: N).map (·.1))=(x.1,[],false) :: Ya (N.map (·.1)) from rfl,XM,XM]
  split
  ·rfl
  ·simp only
   cases XL f x.1 with
   | none=>rfl
   | some g=>exact KZ
theorem L1 {n:Nat}:∀ (q:List Ar) {num old:List Int},NumInj num old->num.length=n->(∀ a∈q,0<=a.2/\a.2<(n:Int))->XL (old.length:Nat) (Bp q num old).2.2=some (((Bp q num old).2.1.length:Nat):Int)
 | [],_,_,_,_,_=>rfl
 | a :: q,num,old,hI,hn,hb=>by
  have ha:=hb a gB3
  have hI2:=hI.one (t:=a.2) ha.1 (by rw [hn];exact ha.2)
  have hl2:=DS num old a.2
  have ih:=L1 q hI2 (hl2.trans hn) fun b hbm=>hb b (gEf _ hbm)
  simp only [Bp,XL]
  have hv:(((AM num old a.2).1.getD a.2.toNat 0=(old.length:Int))/\(AM num old a.2).2.length=old.length+1)\/((AM num old a.2).1.getD a.2.toNat 0<(old.length:Int)/\(AM num old a.2).2.length=old.length):=by
   have htl:a.2.toNat<num.length:=by omega
   unfold AM
   split
   ·refine .inl ⟨?_,by simp⟩
    simp [gE2,htl]
   ·rename_i hneg
    refine .inr ⟨?_,rfl⟩
    simp only
    rw [gE2,gE1 htl,gBF] at hneg ⊢
    have:=(List.getElem?_eq_some_iff.1 (hI.inj _ _ (gE1 htl) (by omega))).1
    omega
  rcases hv with ⟨h1,h2⟩ | ⟨h1,h2⟩
  ·rw [h1,if_neg (by omega),if_pos (by omega)]
   rw [h2] at ih
   rw [show ((old.length:Nat):Int)+1=((old.length+1:Nat):Int) by omega]
   exact ih
  ·rw [if_neg (by omega),if_neg (by omega)]
   rw [h2] at ih
   exact ih
theorem PS {R:List (List Ar)} (hb:∀ r∈R,W9 (XK r)/\∀ a∈r,0<=a.2/\a.2<(R.length:Int)):∀ (f i:Nat) (num old:List Int) (out:List (List Ar)),NumOk R.length num old->NumInj num old->i=out.length->R.length<=f+i->
  (CO R f i num old out).1.take i=out/\XM (old.length:Nat) i (Ya ((CO R f i num old out).1.drop i))=true:=by
 intro f
 induction f with
 | zero=>
  intro i num old out hN hI hi hf
  simp only [CO]
  rw [gE7 (by omega),gAq (by omega)]
  exact ⟨rfl,rfl⟩
 | succ f ih=>
  intro i num old out hN hI hi hf
  unfold CO
  split
  ·simp only
   rw [gE7 (by omega),gAq (by omega)]
   exact ⟨rfl,rfl⟩
  rename_i s hs
  have hs0:=hN.st s (gE9 hs)
  have hsl:s.toNat<R.length:=by omega
  have hil:=(List.getElem?_eq_some_iff.1 hs).1
  have hg:R.getD s.toNat []=R[s.toNat]:=by rw [gE2,gE1 hsl];rfl
  obtain ⟨a1,a2⟩:=hb _ (gE6 hsl)
  rw [hg]
  generalize R[s.toNat]=q at *
  rw [CG (EN a1),CE]
  simp only
  have hN2:=NumOk.go q [] hN a2
  rw [CE] at hN2
  have hq:∀ a∈q,0<=a.2/\a.2<(num.length:Int):=fun a ha=>by rw [hN.len];exact a2 a ha
  have hI2:=H8 q hq hI
  have hnm:=L1 q hI hN.len a2
  obtain ⟨m1,m2⟩:=H9 (old:=old) q hq
  have hso:SortA (Bp q num old).2.2:=by
   refine EN ?_
   rw [m1]
   have:XK (q.map fun a=>(a.1,(Bp q num old).1.getD a.2.toNat 0))=XK q:=by unfold XK;rw [gAW];rfl
   rw [this];exact a1
  have hfo:(Bp q num old).2.2.foldl (fun acc a=>E5 a acc) []=(Bp q num old).2.2:=CG hso
  rw [hfo]
  obtain ⟨t1,t2⟩:=ih (i+1) _ _ (out++[(Bp q num old).2.2]) hN2 hI2 (by simp;omega) (by omega)
  generalize (CO R f (i+1) (Bp q num old).1 (Bp q num old).2.1 (out++[(Bp q num old).2.2])).1=Z at *
  have hZl:i<Z.length:=by
   have:=congrArg List.length t1
   rw [gAS,gAI,gAR] at this
   omega
  rw [gE8 hZl] at t1
  obtain ⟨u1,u2⟩:=List.append_inj t1 (by rw [gAS];omega)
  refine ⟨u1,?_⟩
  rw [gAp hZl,List.cons.inj u2 |>.1]
  show XM _ _ ((_,[],false) :: Ya (Z.drop (i+1)))=true
  rw [XM,if_neg (by omega)]
  simp only
  rw [hnm]
  exact t2
theorem O4 {R:List (List Ar)} (h1:1<=R.length) (hb:∀ r∈R,W9 (XK r)/\∀ a∈r,0<=a.2/\a.2<(R.length:Int)):XM 1 0 (Ya (AZ R).1)=true:=by
 have:=(PS hb R.length 0 _ _ [] (NumOk.start h1) (NumInj.start h1) rfl (by omega)).2
 exact this
structure IdN (n f:Nat) (num old:List Int):Prop where
 len:num.length=n
 ol:old.length=f
 le:f<=n
 lo:∀ t,t<f->num[t]?=some (t:Int)
 hi:∀ t,f<=t->t<n->num[t]?=some (-1)
 od:∀ t,t<f->old[t]?=some (t:Int)
theorem IdN.row {n:Nat}:∀ (q:List Ar) {f:Nat} {g:Int} {num old:List Int},IdN n f num old->XL f q=some g->(∀ a∈q,0<=a.2/\a.2<(n:Int))->(Bp q num old).2.2=q/\∃ k:Nat,g=k/\IdN n k (Bp q num old).1 (Bp q num old).2.1
 | [],f,g,num,old,h,hg,_=>by
  simp only [XL,gBI] at hg
  exact ⟨rfl,f,hg.symm,h⟩
 | (e,t) :: q,f,g,num,old,h,hg,hb=>by
  have ha:=hb _ gB3
  obtain ⟨tn,rfl⟩:∃ n:Nat,t=(n:Int):=⟨t.toNat,by simp only at ha;omega⟩
  simp only at ha
  rw [XL] at hg
  simp only at hg
  split at hg
  ·cases hg
  ·rename_i hle
   by_cases htf:tn=f
   ·subst htf
    rw [if_pos (by omega)] at hg
    have hx:=h.hi tn (gBu _) (by omega)
    rw [Zb hx (by omega) h.ol]
    simp only
    have h2:IdN n (tn+1) (num.set tn (tn:Int)) (old++[(tn:Int)]):=by
     refine ⟨by simp [h.len],by simp [h.ol],by omega,fun s hs=>?_,fun s h3 h4=>?_,fun s hs=>?_⟩
     ·rw [gAE]
      split
      ·rename_i e2
       rw [if_pos (by rw [h.len];omega),e2]
      ·exact h.lo s (by omega)
     ·rw [gAE,if_neg (by omega)]
      exact h.hi s (by omega) h4
     ·rcases gBx s tn with q1 | q1
      ·rw [gEa (by rw [h.ol];exact q1)]
       exact h.od s q1
      ·have:s=tn:=by omega
       subst this
       rw [gEb (by rw [h.ol];exact gBu _),h.ol,gBC];rfl
    obtain ⟨r1,r2⟩:=IdN.row q h2 (by rw [<- hg];rfl) fun b hbm=>hb b (gEf _ hbm)
    exact ⟨by rw [r1],r2⟩
   ·rw [if_neg (by omega)] at hg
    have hx:=h.lo tn (by omega)
    rw [P7 hx (by omega)]
    simp only
    obtain ⟨r1,r2⟩:=IdN.row q h hg fun b hbm=>hb b (gEf _ hbm)
    exact ⟨by rw [r1],r2⟩
theorem Ze {R:List (List Ar)} (hb:∀ r∈R,W9 (XK r)/\∀ a∈r,0<=a.2/\a.2<(R.length:Int)):∀ (f i:Nat) (k:Nat) (num old:List Int),IdN R.length k num old->i<=R.length->R.length<=f+i->XM k i (Ya (R.drop i))=true->
  (CO R f i num old (R.take i)).1=R:=by
 intro f
 induction f with
 | zero=>
  intro i k num old h hi hf hn
  simp only [CO]
  exact gE7 (by omega)
 | succ f ih=>
  intro i k num old h hi hf hn
  unfold CO
  by_cases hil:i<R.length
  rotate_left
  ·have ho:old[i]?=none:=gAB (by rw [h.ol];have:=h.le;omega)
   rw [ho]
   exact gE7 (by omega)
  rw [gAp hil] at hn
  have hn2:XM k i ((R[i],[],false) :: Ya (R.drop (i+1)))=true:=hn
  rw [XM] at hn2
  split at hn2
  ·cases hn2
  rename_i hik
  have ho:=h.od i (by omega)
  rw [ho]
  simp only [gAd]
  have hg:R.getD i []=R[i]:=by rw [gE2,gE1 hil];rfl
  obtain ⟨a1,a2⟩:=hb _ (gE6 hil)
  rw [hg,CG (EN a1),CE]
  simp only at hn2 ⊢
  cases hq:XL (k:Int) R[i] with
  | none=>rw [hq] at hn2;cases hn2
  | some g=>
   rw [hq] at hn2
   obtain ⟨r1,j,rfl,r2⟩:=h.row R[i] hq a2
   have hfo:(R[i]).foldl (fun acc a=>E5 a acc) []=R[i]:=CG (EN a1)
   rw [r1,hfo,<- gE8 hil]
   exact ih (i+1) j _ _ r2 (by omega) (by omega) hn2
theorem YF {R:List (List Ar)} (h1:1<=R.length) (hb:∀ r∈R,W9 (XK r)/\∀ a∈r,0<=a.2/\a.2<(R.length:Int)) (hn:XM 1 0 (Ya R)=true):(AZ R).1=R:=by
 refine Ze hb R.length 0 1 _ _ ⟨by simp,rfl,h1,fun t ht=>?_,fun t h3 h4=>?_,fun t ht=>?_⟩ (by omega) (by omega) hn
 rotate_left
 ·rw [gAE,if_neg (by omega),gAD,if_pos h4]
 ·have:t=0:=by omega
  subst this;rfl
 have:t=0:=by omega
 subst this
 rw [gAE,if_pos rfl,if_pos (by simp;omega)];rfl
theorem YR {R:List (List Ar)} (h1:1<=R.length) (hb:∀ r∈R,W9 (XK r)/\∀ a∈r,0<=a.2/\a.2<(R.length:Int)):(AZ R).1=R↔XM 1 0 (Ya R)=true:=
 ⟨fun h=>by have:=O4 h1 hb;rwa [h] at this,YF h1 hb⟩
theorem SA {x y:Xh} {m:Int} (he:XK x.1=XK y.1) (hl:x.2=y.2):XT x m=XT y m:=by
 have h1:XR x.1 x.2.1=XR y.1 y.2.1:=by
  unfold XR XQ
  rw [he,hl]
 have h2:x.1.isEmpty=y.1.isEmpty:=by
  have:=congrArg List.length he
  rw [BS,BS] at this
  cases hx:x.1 <;> cases hy:y.1 <;> simp_all
 unfold XT
 rw [h1,h2,hl]
theorem MzP.valid {N out:List Xh} {cl:List Int} {m:Int} (hN:vaP N m) (hs:N.length<=255) (h:MzP N out cl):vaP out m:=by
 have hv:=hN.nv
 obtain ⟨p,num,hc,a2,a3,a4,rfl,rfl⟩:=h
 have h1:=hc.one hv.1
 have hcn:=hc.cnt
 have hle:=a2.le
 have hqb:=TV hv hc
 have hql:=Iw N p
 obtain ⟨num',k1,k2,k3,k4,k5,k6⟩:=GJ (R:=qN N p) (by rw [hql];exact h1) fun r hr a ha=>by have:=(hqb r hr).2 a ha;omega
 have hasc:∀ r∈qN N p,W9 (XK r):=fun r hr=>by
  obtain ⟨j,hj,rfl⟩:=gB7.1 hr
  have hj:=gBa.1 hj
  have hx:=hv.2.2 _ (hv.at (hc.idx hj).1)
  have:XK (DI N p.1 (p.1.idxOf (j:Int)))=XK (N.getD (p.1.idxOf (j:Int)) nz).1:=by unfold XK DI;rw [gAW];rfl
  rw [this];exact hx.1
 have hnm:=O4 (R:=qN N p) (by rw [hql];exact h1) fun r hr=>⟨hasc r hr,fun a ha=>by have:=(hqb r hr).2 a ha;omega⟩
 have hol:1<=(AZ (qN N p)).2.length:=by have:=(List.getElem?_eq_some_iff.1 k5).1;omega
 have hln:(Y6 N p (AZ (qN N p)).1 (AZ (qN N p)).2).length=(AZ (qN N p)).2.length:=by
  unfold Y6
  rw [List.length_zipWith]
  omega
 have hst:∀ x∈Y6 N p (AZ (qN N p)).1 (AZ (qN N p)).2,∃ s,s<N.length/\XK x.1=XK (N.getD s nz).1/\x.2=(N.getD s nz).2/\∀ a∈x.1,0<=a.2/\a.2<((AZ (qN N p)).2.length:Int):=fun x hx=>by
  obtain ⟨j,hj,rfl⟩:=gAG hx
  have hj2:=hj
  rw [hln] at hj2
  have hjr:j<(AZ (qN N p)).1.length:=by omega
  rw [Su hj hjr hj2]
  obtain ⟨r1,r2⟩:=k6 j _ _ (gE1 hj2) (gE1 hjr)
  have hss:=a2.st _ (gE6 hj2)
  generalize (AZ (qN N p)).2[j]=s at *
  generalize (AZ (qN N p)).1[j]=r at *
  obtain ⟨sn,rfl⟩:∃ n:Nat,s=(n:Int):=⟨s.toNat,by omega⟩
  obtain ⟨i1,i2⟩:=hc.idx (j:=sn) (by omega)
  have hq:(qN N p).getD sn []=DI N p.1 (p.1.idxOf (sn:Int)):=by rw [gE2,Qx (by omega)];rfl
  rw [gAd,hq] at r1 r2
  obtain ⟨b1,b2⟩:=Hu hv hc i1
  have hev:XK ((DI N p.1 (p.1.idxOf (sn:Int))).map fun a=>(a.1,num'.getD a.2.toNat 0))=XK (N.getD (p.1.idxOf (sn:Int)) nz).1:=by
   unfold XK DI
   rw [gAW,gAW];rfl
  have hso:SortA ((DI N p.1 (p.1.idxOf (sn:Int))).map fun a=>(a.1,num'.getD a.2.toNat 0)):=by
   refine EN ?_
   rw [hev]
   exact (hv.2.2 _ (hv.at i1)).1
  rw [CG b1,CG hso] at r1
  refine ⟨p.1.idxOf (sn:Int),i1,by unfold Y5;simp only;rw [r1,hev],rfl,fun a ha=>?_⟩
  unfold Y5 at ha
  simp only at ha
  rw [r1] at ha
  obtain ⟨b,hb,rfl⟩:=gB7.1 ha
  obtain ⟨x,hx,hp⟩:=r2 b hb
  have:=(List.getElem?_eq_some_iff.1 (k2.inj _ x hx hp)).1
  simp only [gE2,hx,gBF]
  omega
 refine ⟨hN.1,by omega,by omega,?_,fun x hx=>?_,?_⟩
 ·refine gBv (Jz (n:=1025) fun x hx=>?_) ?_
  ·obtain ⟨s,hs1,e1,_,_⟩:=hst x hx
   have:=(hv.2.2 _ (hv.at hs1)).2.1
   rw [<- BS,e1,BS];exact this
  have:(Y6 N p (AZ (qN N p)).1 (AZ (qN N p)).2).length*1025<=255*1025:=gBz (by omega) (gBu _)
  omega
 ·obtain ⟨s,hs1,e1,e2,e3⟩:=hst x hx
  have hx2:=hv.2.2 _ (hv.at hs1)
  refine ⟨?_,?_⟩
  rotate_left
  ·rw [SA e1 e2]
   exact (hN.2.2.2.2.1 _ (hv.at hs1)).2
  refine Jx (by rw [e1];exact hx2.1) fun a ha=>?_
  have q1:a.1∈XK (N.getD s nz).1:=by rw [<- e1];exact gB7.2 ⟨a,ha,rfl⟩
  obtain ⟨b,hb,eb⟩:=gB7.1 q1
  have q2:=hx2.2.2.1 b hb
  have q3:=e3 a ha
  rw [hln]
  omega
 rw [KZ]
 have:(Y6 N p (AZ (qN N p)).1 (AZ (qN N p)).2).map (·.1)=(AZ (qN N p)).1:=by
  unfold Y6
  have key:∀ (A:List (List Ar)) (B:List Int),A.length=B.length->(List.zipWith (Y5 N p.1) A B).map (·.1)=A:=by
   intro A
   induction A with
   | nil=>intro B _;rfl
   | cons a A ih=>
    intro B hB
    cases B with
    | nil=>simp at hB
    | cons b B=>
     rw [List.zipWith_cons_cons,gAV,ih B (by simpa using hB)];rfl
  exact key _ _ k4
 rw [this]
 exact hnm
end Go.Proofs.YtbnabodoabimnaaGreat
