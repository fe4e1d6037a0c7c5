/- Lemmas. -/
import Derived.Test.YtbnabodoabimnaaGreatMF
import Derived.Test.YtbnabodoabimnaaGreatG11
namespace Go.Proofs.YtbnabodoabimnaaGreat
set_option linter.unusedVariables false
set_option linter.unusedSimpArgs false
inductive Rc (E:Nat->List Nat):Nat->Nat->Prop
 | refl (v:Nat):Rc E v v
 | tail {u v w:Nat}:Rc E u v->w∈E v->Rc E u w
theorem Rc.trans {E:Nat->List Nat} {u v w:Nat} (h1:Rc E u v) (h2:Rc E v w):Rc E u w:=by
 induction h2 with
 | refl=>exact h1
 | tail _ he ih=>exact ih.tail he
theorem Rc.one {E:Nat->List Nat} {u v:Nat} (h:v∈E u):Rc E u v:=(Rc.refl u).tail h

def upd (f:Nat->Int) (v:Nat) (a:Int):Nat->Int:=fun u=>if u=v then a else f u
theorem BM (f:Nat->Int) (v:Nat) (a:Int):upd f v a v=a:=by simp [upd]
theorem B7 {f:Nat->Int} {v u:Nat} {a:Int} (h:u ≠ v):upd f v a u=f u:=by simp [upd,h]

structure TJ where
 idx:Nat->Int
 low:Nat->Int
 out:Nat->Int
 opn:List Nat
 pth:List (Nat × Nat)
 cnt:Int
def TJ.op (S:TJ) (v:Nat):Prop:=0<S.idx v/\S.out v<0
def TJ.pr (S:TJ) (v j:Nat):Prop:=∀ k,(v,k)∈S.pth->j<k
def Least (E:Nat->List Nat) (v:Nat) (x:Int):Prop:=∃ m:Nat,x=m/\Rc E v m/\Rc E m v/\∀ u,Rc E v u->Rc E u v->m<=u

structure TI (E:Nat->List Nat) (n:Nat) (S:TJ):Prop where
 nn:∀ v,0<=S.idx v
 lt:∀ v,0<S.idx v->v<n
 inj:∀ u v,0<S.idx u->S.idx u=S.idx v->u=v
 cnt:∀ v,S.idx v<=S.cnt
 opn:∀ v,v∈S.opn↔S.op v
 srt:S.opn.Pairwise fun a b=>S.idx a<S.idx b
 pop:∀ g k,(g,k)∈S.pth->S.op g
 psr:S.pth.Pairwise fun a b=>S.idx a.1<S.idx b.1
 cls:∀ v,0<=S.out v->0<S.idx v/\(∀ t∈E v,0<=S.out t)/\Least E v (S.out v)
 suc:∀ v,0<S.idx v->∀ j t,(E v)[j]?=some t->S.pr v j->0<S.idx t
 lw:∀ v,S.op v->S.low v<=S.idx v/\∃ w,S.op w/\Rc E v w/\S.idx w=S.low v
 blk:∀ v,S.op v->(∀ k,(v,k) ∉ S.pth)->S.low v<S.idx v
 edg:∀ v,S.op v->∀ j t,(E v)[j]?=some t->S.pr v j->S.op t->∀ g k,(g,k)∈S.pth->S.idx g<=S.idx v->(∀ g' k',(g',k')∈S.pth->S.idx g'<=S.idx v->S.idx g'<=S.idx g)->S.low g<=S.idx t
 rch:∀ g k,(g,k)∈S.pth->∀ v,S.op v->S.idx g<=S.idx v->Rc E g v

variable {E : Nat -> List Nat} {n : Nat} {S : TJ}

theorem TI.visit (h:TI E n S) {t:Nat} {P1:List (Nat × Nat)} (ht:t<n) (h0:S.idx t=0)
  (hP1:∀ g k,(g,k)∈P1->∃ k0,(g,k0)∈S.pth)
  (hP2:∀ g k0,(g,k0)∈S.pth->(g,k0)∈P1\/((g,k0+1)∈P1/\(E g)[k0]?=some t))
  (hs:P1.Pairwise fun a b=>S.idx a.1<S.idx b.1) (hr:∀ g k,(g,k)∈S.pth->Rc E g t):
  TI E n { idx:=upd S.idx t (S.cnt+1),low:=upd S.low t (S.cnt+1),out:=S.out,opn:=S.opn++[t],pth:=P1++[(t,0)],cnt:=S.cnt+1 }:=by
 have hot:S.out t<0:=by
  rcases Int.lt_or_le (S.out t) 0 with h1 | h1
  ·exact h1
  have:=(h.cls t h1).1;omega
 have hc0:0<=S.cnt:=by have:=h.nn t;have:=h.cnt t;omega
 have hop:∀ v,TJ.op { idx:=upd S.idx t (S.cnt+1),low:=upd S.low t (S.cnt+1),out:=S.out,opn:=S.opn++[t],pth:=P1++[(t,0)],cnt:=S.cnt+1 } v↔v=t\/S.op v:=by
  intro v
  unfold TJ.op
  by_cases e:v=t
  ·subst e;simp only [BM,true_or,iff_true];exact ⟨by omega,hot⟩
  simp only [B7 e,e,false_or]
 have hnt:∀ v,S.op v->v ≠ t:=fun v hv e=>by subst e;have:=hv.1;omega
 have hP:∀ g k,(g,k)∈P1->g ≠ t/\S.op g:=fun g k hg=>by
  obtain ⟨k0,hk⟩:=hP1 g k hg
  have:=h.pop g k0 hk
  exact ⟨hnt g this,this⟩
 have hmem:∀ g k,(g,k)∈P1++[(t,0)]↔(g,k)∈P1\/(g=t/\k=0):=by intro g k;simp
 have hpr:∀ v,v ≠ t->∀ j q,(E v)[j]?=some q->q ≠ t->(∀ k,(v,k)∈P1++[(t,0)]->j<k)->S.pr v j:=by
  intro v hv j q hq hqt hk k0 hk0
  rcases hP2 v k0 hk0 with h1 | ⟨h1,h2⟩
  ·exact hk k0 ((hmem _ _).2 (.inl h1))
  have:=hk (k0+1) ((hmem _ _).2 (.inl h1))
  rcases gBx j k0 with h3 | h3
  ·exact h3
  have e:j=k0:=by omega
  subst e;rw [hq] at h2;cases h2;exact absurd rfl hqt
 refine ⟨?_,?_,?_,?_,?_,?_,?_,?_,?_,?_,?_,?_,?_,?_⟩ <;> simp only
 rotate_left 13
 ·intro g k hg v hv hle
  rcases (hmem g k).1 hg with h1 | ⟨h1,_⟩
  rotate_left
  ·subst h1
   rcases (hop v).1 hv with e | hv
   ·subst e;exact .refl _
   rw [BM,B7 (hnt v hv)] at hle;have:=h.cnt v;omega
  obtain ⟨eg,hog⟩:=hP g k h1
  obtain ⟨k0,hk0⟩:=hP1 g k h1
  rcases (hop v).1 hv with e | hv
  ·subst e;exact hr g k0 hk0
  rw [B7 eg,B7 (hnt v hv)] at hle
  exact h.rch g k0 hk0 v hv hle
 ·intro v
  by_cases e:v=t
  ·subst e;rw [BM];omega
  rw [B7 e];exact h.nn v
 ·intro v hv
  by_cases e:v=t
  ·subst e;exact ht
  rw [B7 e] at hv;exact h.lt v hv
 ·intro u v hu hv
  by_cases e:u=t
  ·subst e
   by_cases e2:v=u
   ·exact e2.symm
   rw [BM,B7 e2] at hv;have:=h.cnt v;omega
  rw [B7 e] at hu hv
  by_cases e2:v=t
  ·subst e2;rw [BM] at hv;have:=h.cnt u;omega
  rw [B7 e2] at hv;exact h.inj u v hu hv
 ·intro v
  by_cases e:v=t
  ·subst e;rw [BM];omega
  rw [B7 e];have:=h.cnt v;omega
 ·intro v
  rw [hop,gB0,h.opn,gBb]
  constructor <;> (intro h1;rcases h1 with h1 | h1 <;> simp [h1])
 ·rw [gBd]
  refine ⟨h.srt.imp_of_mem fun {a b} ha hb hab=>?_,by simp,fun a ha b hb=>?_⟩
  ·rw [B7 (hnt a ((h.opn a).1 ha)),B7 (hnt b ((h.opn b).1 hb))];exact hab
  simp at hb;subst hb
  rw [BM,B7 (hnt a ((h.opn a).1 ha))];have:=h.cnt a;omega
 ·intro g k hg
  rw [hop]
  rcases (hmem g k).1 hg with h1 | ⟨h1,_⟩
  ·exact .inr (hP g k h1).2
  exact .inl h1
 ·rw [gBd]
  refine ⟨hs.imp_of_mem fun {a b} ha hb hab=>?_,by simp,fun a ha b hb=>?_⟩
  ·rw [B7 (hP a.1 a.2 ha).1,B7 (hP b.1 b.2 hb).1];exact hab
  simp at hb;subst hb
  rw [BM,B7 (hP a.1 a.2 ha).1];have:=h.cnt a.1;omega
 ·intro v hv
  obtain ⟨h1,h2,h3⟩:=h.cls v hv
  refine ⟨?_,h2,h3⟩
  by_cases e:v=t
  ·subst e;omega
  rw [B7 e];exact h1
 ·intro v hv j q hq hk
  by_cases e2:q=t
  ·subst e2;rw [BM];omega
  rw [B7 e2]
  by_cases e:v=t
  ·subst e
   have:=hk 0 ((hmem _ _).2 (.inr ⟨rfl,rfl⟩))
   omega
  rw [B7 e] at hv
  exact h.suc v hv j q hq (hpr v e j q hq e2 hk)
 ·intro v hv
  rcases (hop v).1 hv with e | hv
  ·subst e
   simp only [BM]
   exact ⟨by omega,v,(hop v).2 (.inl rfl),.refl v,by rw [BM]⟩
  have e:=hnt v hv
  obtain ⟨h1,w,h2,h3,h4⟩:=h.lw v hv
  simp only [B7 e]
  exact ⟨h1,w,(hop w).2 (.inr h2),h3,by rw [B7 (hnt w h2)];exact h4⟩
 ·intro v hv hk
  rcases (hop v).1 hv with e | hv
  ·exact absurd ((hmem v 0).2 (.inr ⟨e,rfl⟩)) (hk 0)
  have e:=hnt v hv
  simp only [B7 e]
  refine h.blk v hv fun k0 hk0=>?_
  rcases hP2 v k0 hk0 with h1 | ⟨h1,_⟩
  ·exact hk _ ((hmem _ _).2 (.inl h1))
  exact hk _ ((hmem _ _).2 (.inl h1))
 intro v hv j q hq hk hoq g k hg hle hlast
 rcases (hop v).1 hv with e | hv
 ·subst e
  have:=hk 0 ((hmem _ _).2 (.inr ⟨rfl,rfl⟩))
  omega
 have e:=hnt v hv
 rw [B7 e] at hle
 rcases (hmem g k).1 hg with h1 | ⟨h1,_⟩
 rotate_left
 ·subst h1
  rw [BM] at hle
  have:=h.cnt v;omega
 obtain ⟨eg,hog⟩:=hP g k h1
 rw [B7 eg] at hle hlast ⊢
 by_cases e2:q=t
 ·subst e2
  rw [BM]
  have:=(h.lw g hog).1;have:=h.cnt g;omega
 rw [B7 e2]
 have hoq':S.op q:=by
  rcases (hop q).1 hoq with h3 | h3
  ·exact absurd h3 e2
  exact h3
 obtain ⟨k0,hk0⟩:=hP1 g k h1
 refine h.edg v hv j q hq (hpr v e j q hq e2 hk) hoq' g k0 hk0 hle fun g' k' hg' hle'=>?_
 have eg':=hnt g' (h.pop g' k' hg')
 rcases hP2 g' k' hg' with h4 | ⟨h4,_⟩
 ·have:=hlast g' _ ((hmem _ _).2 (.inl h4)) (by rw [B7 e,B7 eg'];exact hle')
  rwa [B7 eg'] at this
 have:=hlast g' _ ((hmem _ _).2 (.inl h4)) (by rw [B7 e,B7 eg'];exact hle')
 rwa [B7 eg'] at this

theorem TI.top (h:TI E n S) {Q:List (Nat × Nat)} {s k:Nat} (hp:S.pth=Q++[(s,k)]):
  S.op s/\(∀ g j,(g,j)∈Q->g ≠ s/\S.idx g<S.idx s)/\(∀ g j,(g,j)∈S.pth↔(g,j)∈Q\/(g=s/\j=k)):=by
 have h1:=h.psr
 rw [hp,gBd] at h1
 refine ⟨h.pop s k (by rw [hp];simp),fun g j hg=>?_,fun g j=>by rw [hp];simp⟩
 have:=h1.2.2 (g,j) hg (s,k) (by simp)
 exact ⟨fun e=>by subst e;exact absurd this (Int.lt_irrefl _),this⟩

theorem TI.edge (h:TI E n S) {Q:List (Nat × Nat)} {s k t:Nat} {L:Nat->Int} (hp:S.pth=Q++[(s,k)]) (ht:(E s)[k]?=some t) (hv:0<S.idx t)
  (hL1:∀ v,v ≠ s->L v=S.low v) (hL2:L s<=S.low s) (hL3:S.op t->L s<=S.idx t) (hL4:∃ w,S.op w/\Rc E s w/\S.idx w=L s):
  TI E n { S with low:=L,pth:=Q++[(s,k+1)] }:=by
 obtain ⟨hos,hq,hmem⟩:=h.top hp
 have hmem':∀ g j,(g,j)∈Q++[(s,k+1)]↔(g,j)∈Q\/(g=s/\j=k+1):=by intro g j;simp
 have hLle:∀ v,L v<=S.low v:=fun v=>by
  by_cases e:v=s
  ·subst e;exact hL2
  exact Int.le_of_eq (hL1 v e)
 have hpr:∀ v j,(v=s->j ≠ k)->(∀ k',(v,k')∈Q++[(s,k+1)]->j<k')->S.pr v j:=by
  intro v j hne hk k' hk'
  rcases (hmem v k').1 hk' with h1 | ⟨h1,h2⟩
  ·exact hk k' ((hmem' _ _).2 (.inl h1))
  subst h2
  have:=hk (k'+1) ((hmem' _ _).2 (.inr ⟨h1,rfl⟩))
  have:=hne h1
  omega
 have hto:∀ g j,(g,j)∈S.pth->∃ j',(g,j')∈Q++[(s,k+1)]:=fun g j hg=>by
  rcases (hmem g j).1 hg with h1 | ⟨h1,_⟩
  ·exact ⟨j,(hmem' _ _).2 (.inl h1)⟩
  exact ⟨k+1,(hmem' _ _).2 (.inr ⟨h1,rfl⟩)⟩
 have hfr:∀ g j,(g,j)∈Q++[(s,k+1)]->∃ j',(g,j')∈S.pth:=fun g j hg=>by
  rcases (hmem' g j).1 hg with h1 | ⟨h1,_⟩
  ·exact ⟨j,(hmem _ _).2 (.inl h1)⟩
  exact ⟨k,(hmem _ _).2 (.inr ⟨h1,rfl⟩)⟩
 refine ⟨h.nn,h.lt,h.inj,h.cnt,h.opn,h.srt,?_,?_,h.cls,?_,?_,?_,?_,?_⟩ <;> simp only
 rotate_left 6
 ·intro g j hg v hv0 hle
  obtain ⟨j',hj⟩:=hfr g j hg
  exact h.rch g j' hj v hv0 hle
 ·intro g j hg
  obtain ⟨j',hj⟩:=hfr g j hg
  exact h.pop g j' hj
 ·have h1:=h.psr
  rw [hp,gBd] at h1
  rw [gBd]
  exact ⟨h1.1,by simp,fun a ha b hb=>by simp at hb;subst hb;exact h1.2.2 a ha (s,k) (by simp)⟩
 ·intro v hv0 j q hj hk
  by_cases e:v=s/\j=k
  rotate_left
  ·exact h.suc v hv0 j q hj (hpr v j (fun e1 e2=>e ⟨e1,e2⟩) hk)
  obtain ⟨e1,e2⟩:=e
  subst e1;subst e2
  rw [ht] at hj;cases hj;exact hv
 ·intro v hv0
  by_cases e:v=s
  rotate_left
  ·rw [hL1 v e];exact h.lw v hv0
  subst e
  exact ⟨Int.le_trans hL2 (h.lw v hos).1,hL4⟩
 ·intro v hv0 hk
  have e:v ≠ s:=fun e=>hk (k+1) ((hmem' _ _).2 (.inr ⟨e,rfl⟩))
  rw [hL1 v e]
  refine h.blk v hv0 fun k' hk'=>?_
  obtain ⟨j',hj⟩:=hto v k' hk'
  exact hk j' hj
 intro v hv0 j q hj hk hoq g j2 hg hle hlast
 by_cases e:v=s/\j=k
 rotate_left
 ·obtain ⟨j',hj'⟩:=hfr g j2 hg
  refine Int.le_trans (hLle g) (h.edg v hv0 j q hj (hpr v j (fun e1 e2=>e ⟨e1,e2⟩) hk) hoq g j' hj' hle fun g' k' hg' hle'=>?_)
  obtain ⟨j3,h3⟩:=hto g' k' hg'
  exact hlast g' j3 h3 hle'
 obtain ⟨e1,e2⟩:=e
 subst e1;subst e2
 rw [ht] at hj;cases hj
 have h1:=hlast v _ ((hmem' _ _).2 (.inr ⟨rfl,rfl⟩)) (gAc _)
 have h2:g=v:=by
  obtain ⟨j',hj⟩:=hfr g j2 hg
  exact h.inj g v (h.pop g j' hj).1 (Int.le_antisymm hle h1)
 subst h2
 exact hL3 hoq

def Wg (S:TJ) (s:Nat) (Q:List (Nat × Nat)) (L:Nat->Int):Prop:=
 (Q=[]/\L=S.low)\/∃ Q' u j,Q=Q'++[(u,j)]/\L=upd S.low u (min (S.low u) (S.low s))

theorem TI.pop_ (h:TI E n S) {Q:List (Nat × Nat)} {s k:Nat} {L:Nat->Int} (hp:S.pth=Q++[(s,k)]) (hk:(E s).length<=k) (hlow:S.low s ≠ S.idx s) (hL:Wg S s Q L):
  TI E n { S with low:=L,pth:=Q }:=by
 obtain ⟨hos,hq,hmem⟩:=h.top hp
 have hLle:∀ v,L v<=S.low v:=fun v=>by
  rcases hL with ⟨_,e⟩ | ⟨Q',u,j,_,e⟩
  ·rw [e];exact gAc _
  rw [e]
  by_cases e2:v=u
  ·subst e2;rw [BM];exact Int.min_le_left _ _
  rw [B7 e2];exact gAc _
 have hLeq:∀ v,(∀ j,(v,j) ∉ Q)->L v=S.low v:=fun v hv=>by
  rcases hL with ⟨_,e⟩ | ⟨Q',u,j,e1,e⟩
  ·rw [e]
  rw [e]
  by_cases e2:v=u
  ·subst e2;exact absurd (by rw [e1];simp) (hv j)
  rw [B7 e2]
 have hpr:∀ v j q,(E v)[j]?=some q->(∀ k',(v,k')∈Q->j<k')->S.pr v j:=by
  intro v j q hj hk' k' hm
  rcases (hmem v k').1 hm with h1 | ⟨h1,h2⟩
  ·exact hk' k' h1
  subst h1;subst h2
  have:=(List.getElem?_eq_some_iff.1 hj).1
  omega
 have hin:∀ g j,(g,j)∈Q->(g,j)∈S.pth:=fun g j hg=>(hmem g j).2 (.inl hg)
 refine ⟨h.nn,h.lt,h.inj,h.cnt,h.opn,h.srt,fun g j hg=>h.pop g j (hin g j hg),?_,h.cls,?_,?_,?_,?_,fun g j hg=>h.rch g j (hin g j hg)⟩ <;> simp only
 ·have h1:=h.psr
  rw [hp,gBd] at h1
  exact h1.1
 ·intro v hv0 j q hj hk'
  exact h.suc v hv0 j q hj (hpr v j q hj hk')
 ·intro v hv0
  obtain ⟨h1,w,h2,h3,h4⟩:=h.lw v hv0
  refine ⟨Int.le_trans (hLle v) h1,?_⟩
  rcases hL with ⟨_,e⟩ | ⟨Q',u,j,e1,e⟩
  ·exact ⟨w,h2,h3,by rw [e];exact h4⟩
  rw [e]
  by_cases e2:v=u
  rotate_left
  ·rw [B7 e2];exact ⟨w,h2,h3,h4⟩
  subst e2
  rw [BM]
  rcases Int.le_total (S.low v) (S.low s) with h5 | h5
  ·exact ⟨w,h2,h3,by rw [Int.min_eq_left h5];exact h4⟩
  obtain ⟨_,w',h6,h7,h8⟩:=h.lw s hos
  have hvQ:(v,j)∈Q:=by rw [e1];simp
  refine ⟨w',h6,(h.rch v j (hin v j hvQ) s hos (Int.le_of_lt (hq v j hvQ).2)).trans h7,by rw [Int.min_eq_right h5];exact h8⟩
 ·intro v hv0 hk'
  rw [hLeq v hk']
  by_cases e:v=s
  ·subst e
   have:=(h.lw v hos).1
   omega
  refine h.blk v hv0 fun k2 hm=>?_
  rcases (hmem v k2).1 hm with h1 | ⟨h1,_⟩
  ·exact hk' k2 h1
  exact e h1
 intro v hv0 j q hj hk' hoq g j2 hg hle hlast
 have hpv:=hpr v j q hj hk'
 by_cases hsv:S.idx s<=S.idx v
 rotate_left
 ·refine Int.le_trans (hLle g) (h.edg v hv0 j q hj hpv hoq g j2 (hin g j2 hg) hle fun g' k' hg' hle'=>?_)
  rcases (hmem g' k').1 hg' with h2 | ⟨h2,_⟩
  ·exact hlast g' k' h2 hle'
  subst h2;omega
 have h1:=h.edg v hv0 j q hj hpv hoq s k ((hmem s k).2 (.inr ⟨rfl,rfl⟩)) hsv (fun g' k' hg' _=>by
  rcases (hmem g' k').1 hg' with h2 | ⟨h2,_⟩
  ·exact Int.le_of_lt (hq g' k' h2).2
  ·subst h2;exact gAc _)
 rcases hL with ⟨e0,_⟩ | ⟨Q',u,j3,e1,e⟩
 ·subst e0;cases hg
 have huQ:(u,j3)∈Q:=by rw [e1];simp
 have h2:=hlast u j3 huQ (by have:=(hq u j3 huQ).2;omega)
 have h3:S.idx g<=S.idx u:=by
  have h4:=h.psr
  rw [hp,gBd] at h4
  have h5:=h4.1
  rw [e1,gBd] at h5
  rw [e1] at hg
  rcases gB0.1 hg with h6 | h6
  ·exact Int.le_of_lt (h5.2.2 _ h6 (u,j3) (by simp))
  simp at h6;rw [h6.1];exact gAc _
 have h4:g=u:=h.inj g u (h.pop g j2 (hin g j2 hg)).1 (Int.le_antisymm h3 h2)
 subst h4
 rw [e,BM]
 exact Int.le_trans (Int.min_le_right _ _) h1

def TJ.seg (S:TJ) (s v:Nat):Prop:=S.op v/\S.idx s<=S.idx v
theorem TI.seg_edge (h:TI E n S) {Q:List (Nat × Nat)} {s k:Nat} (hp:S.pth=Q++[(s,k)]) (hk:(E s).length<=k) (hlow:S.low s=S.idx s) {v:Nat} (hv:S.seg s v) {q:Nat} (hqv:q∈E v):0<=S.out q\/S.seg s q:=by
 obtain ⟨hos,hq,hmem⟩:=h.top hp
 obtain ⟨j,hj⟩:=gB6.1 hqv
 have hpr:S.pr v j:=fun k' hm=>by
  rcases (hmem v k').1 hm with h1 | ⟨h1,h2⟩
  ·have:=(hq v k' h1).2;have:=hv.2;omega
  subst h1;subst h2
  have:=(List.getElem?_eq_some_iff.1 hj).1
  omega
 have h0:=h.suc v hv.1.1 j q hj hpr
 rcases Int.lt_or_le (S.out q) 0 with h1 | h1
 rotate_left
 ·exact .inl h1
 refine .inr ⟨⟨h0,h1⟩,?_⟩
 rw [<- hlow]
 refine h.edg v hv.1 j q hj hpr ⟨h0,h1⟩ s k ((hmem s k).2 (.inr ⟨rfl,rfl⟩)) hv.2 fun g' k' hg' _=>?_
 rcases (hmem g' k').1 hg' with h2 | ⟨h2,_⟩
 ·exact Int.le_of_lt (hq g' k' h2).2
 subst h2;exact gAc _
theorem TI.closed_rc (h:TI E n S) {v w:Nat} (hv:0<=S.out v) (hr:Rc E v w):0<=S.out w:=by
 induction hr with
 | refl=>exact hv
 | tail _ he ih=>exact (h.cls _ ih).2.1 _ he
theorem TI.seg_rc (h:TI E n S) {Q:List (Nat × Nat)} {s k:Nat} (hp:S.pth=Q++[(s,k)]) (hk:(E s).length<=k) (hlow:S.low s=S.idx s) {v w:Nat} (hv:S.seg s v) (hr:Rc E v w):0<=S.out w\/S.seg s w:=by
 induction hr with
 | refl=>exact .inr hv
 | tail _ he ih=>
  rcases ih with h1 | h1
  ·exact .inl ((h.cls _ h1).2.1 _ he)
  exact h.seg_edge hp hk hlow h1 he
theorem TI.seg_back (h:TI E n S) {Q:List (Nat × Nat)} {s k:Nat} (hp:S.pth=Q++[(s,k)]) (hk:(E s).length<=k) (hlow:S.low s=S.idx s):∀ (m:Nat) (v:Nat),(S.idx v).toNat<=m->S.seg s v->Rc E v s
 | 0,v,hm,hv=>by have:=hv.1.1;omega
 | m+1,v,hm,hv=>by
  obtain ⟨hos,hq,hmem⟩:=h.top hp
  by_cases e:v=s
  ·subst e;exact .refl _
  ·have h1:=h.blk v hv.1 fun k' hm'=>by
    rcases (hmem v k').1 hm' with h2 | ⟨h2,_⟩
    ·have:=(hq v k' h2).2;have:=hv.2;omega
    ·exact e h2
   obtain ⟨_,w,h2,h3,h4⟩:=h.lw v hv.1
   rcases h.seg_rc hp hk hlow hv h3 with h5 | h5
   ·have:=h2.2;omega
   ·exact h3.trans (h.seg_back hp hk hlow m w (by have:=h2.1;omega) h5)

theorem TI.close (h:TI E n S) {Q:List (Nat × Nat)} {s k:Nat} {L O:Nat->Int} {O1 O2:List Nat} {m:Nat} (hp:S.pth=Q++[(s,k)]) (hk:(E s).length<=k) (hlow:S.low s=S.idx s) (hL:Wg S s Q L)
  (hO1:∀ v,S.seg s v->O v=m) (hO2:∀ v,¬ S.seg s v->O v=S.out v) (hm1:S.seg s m) (hm2:∀ v,S.seg s v->m<=v)
  (ho:S.opn=O1++O2) (ho1:∀ v∈O1,S.idx v<S.idx s) (ho2:∀ v∈O2,S.idx s<=S.idx v):
  TI E n { S with low:=L,out:=O,opn:=O1,pth:=Q }:=by
 obtain ⟨hos,hq,hmem⟩:=h.top hp
 have hLs:L=S.low:=by
  rcases hL with ⟨_,e⟩ | ⟨Q',u,j,e1,e⟩
  ·exact e
  rw [e]
  funext v
  by_cases e2:v=u
  rotate_left
  ·rw [B7 e2]
  subst e2
  have hvQ:(v,j)∈Q:=by rw [e1];simp
  have h1:=(h.lw v (h.pop v j ((hmem v j).2 (.inl hvQ)))).1
  have h2:=(hq v j hvQ).2
  rw [BM,Int.min_eq_left (by omega)]
 subst hLs
 have hin:∀ g j,(g,j)∈Q->(g,j)∈S.pth:=fun g j hg=>(hmem g j).2 (.inl hg)
 have hop:∀ v,TJ.op { S with out:=O,opn:=O1,pth:=Q } v↔S.op v/\S.idx v<S.idx s:=by
  intro v
  unfold TJ.op
  by_cases e:S.seg s v
  ·simp only [hO1 v e]
   constructor
   ·rintro ⟨_,h1⟩;omega
   rintro ⟨_,h1⟩;have:=e.2;omega
  simp only [hO2 v e]
  constructor
  rotate_left
  ·exact fun h1=>h1.1
  intro h1
  refine ⟨h1,?_⟩
  rcases Int.lt_or_le (S.idx v) (S.idx s) with h2 | h2
  ·exact h2
  exact absurd ⟨h1,h2⟩ e
 have hpr:∀ v j q,(E v)[j]?=some q->(∀ k',(v,k')∈Q->j<k')->S.pr v j:=by
  intro v j q hj hk' k' hm
  rcases (hmem v k').1 hm with h1 | ⟨h1,h2⟩
  ·exact hk' k' h1
  subst h1;subst h2
  have:=(List.getElem?_eq_some_iff.1 hj).1
  omega
 have hseg0:∀ v,0<=O v->0<=S.out v\/S.seg s v:=fun v hv=>by
  by_cases e:S.seg s v
  ·exact .inr e
  rw [hO2 v e] at hv;exact .inl hv
 have hge:∀ v,0<=S.out v\/S.seg s v->0<=O v:=fun v hv=>by
  by_cases e:S.seg s v
  ·rw [hO1 v e];omega
  rcases hv with h1 | h1
  ·rw [hO2 v e];exact h1
  exact absurd h1 e
 refine ⟨h.nn,h.lt,h.inj,h.cnt,?_,?_,?_,?_,?_,?_,?_,?_,?_,?_⟩ <;> simp only
 rotate_left 5
 ·intro v hv0 j q hj hk'
  exact h.suc v hv0 j q hj (hpr v j q hj hk')
 ·intro v hv0
  obtain ⟨h1,h2⟩:=(hop v).1 hv0
  obtain ⟨h3,w,h4,h5,h6⟩:=h.lw v h1
  exact ⟨h3,w,(hop w).2 ⟨h4,by omega⟩,h5,h6⟩
 ·intro v hv0 hk'
  obtain ⟨h1,h2⟩:=(hop v).1 hv0
  refine h.blk v h1 fun k2 hm=>?_
  rcases (hmem v k2).1 hm with h3 | ⟨h3,_⟩
  ·exact hk' k2 h3
  subst h3;omega
 ·intro v hv0 j q hj hk' hoq g j2 hg hle hlast
  obtain ⟨h1,h2⟩:=(hop v).1 hv0
  obtain ⟨h3,h4⟩:=(hop q).1 hoq
  refine h.edg v h1 j q hj (hpr v j q hj hk') h3 g j2 (hin g j2 hg) hle fun g' k' hg' hle'=>?_
  rcases (hmem g' k').1 hg' with h5 | ⟨h5,_⟩
  ·exact hlast g' k' h5 hle'
  subst h5;omega
 ·intro g j hg v hv0 hle
  exact h.rch g j (hin g j hg) v ((hop v).1 hv0).1 hle
 ·intro v
  rw [hop]
  constructor
  ·intro hv
   exact ⟨(h.opn v).1 (by rw [ho];exact gB1 _ hv),ho1 v hv⟩
  rintro ⟨h1,h2⟩
  have:=(h.opn v).2 h1
  rw [ho] at this
  rcases gB0.1 this with h3 | h3
  ·exact h3
  have:=ho2 v h3;omega
 ·have:=h.srt
  rw [ho,gBd] at this
  exact this.1
 ·intro g j hg
  exact (hop g).2 ⟨h.pop g j (hin g j hg),(hq g j hg).2⟩
 ·have h1:=h.psr
  rw [hp,gBd] at h1
  exact h1.1
 intro v hv
 rcases hseg0 v hv with h1 | h1
 ·obtain ⟨h2,h3,h4⟩:=h.cls v h1
  refine ⟨h2,fun q hqv=>hge q (.inl (h3 q hqv)),?_⟩
  have:¬ S.seg s v:=fun h5=>by have:=h5.1.2;omega
  rw [hO2 v this];exact h4
 refine ⟨h1.1.1,fun q hqv=>hge q (h.seg_edge hp hk hlow h1 hqv),?_⟩
 rw [hO1 v h1]
 have back:∀ w,S.seg s w->Rc E w s:=fun w hw=>h.seg_back hp hk hlow _ w (gBu _) hw
 have forth:∀ w,S.seg s w->Rc E s w:=fun w hw=>h.rch s k ((hmem s k).2 (.inr ⟨rfl,rfl⟩)) w hw.1 hw.2
 refine ⟨m,rfl,(back v h1).trans (forth m hm1),(back m hm1).trans (forth v h1),fun u hu1 hu2=>?_⟩
 rcases h.seg_rc hp hk hlow h1 hu1 with h2 | h2
 ·have:=h.closed_rc h2 hu2;have:=h1.1.2;omega
 exact hm2 u h2

theorem TI.none_open (h:TI E n S) (hp:S.pth=[]):∀ (m:Nat) (v:Nat),(S.idx v).toNat<=m->¬ S.op v
 | 0,v,hm,hv=>by have:=hv.1;omega
 | m+1,v,hm,hv=>by
  have h1:=h.blk v hv (by rw [hp];simp)
  obtain ⟨_,w,h2,h3,h4⟩:=h.lw v hv
  exact h.none_open hp m w (by have:=h2.1;omega) h2
theorem TI.done (h:TI E n S) (hp:S.pth=[]) {v:Nat} (hv:0<S.idx v):Least E v (S.out v):=by
 rcases Int.lt_or_le (S.out v) 0 with h1 | h1
 ·exact absurd ⟨hv,h1⟩ (h.none_open hp _ v (gBu _))
 exact (h.cls v h1).2.2
theorem TI.start:TI E n { idx:=fun _=>0,low:=fun _=>0,out:=fun _ => -1,opn:=[],pth:=[],cnt:=0 }:=by
 refine ⟨?_,?_,?_,?_,?_,?_,?_,?_,?_,?_,?_,?_,?_,?_⟩ <;> simp [TJ.op]
 all_goals (intros;omega)
end Go.Proofs.YtbnabodoabimnaaGreat
namespace Go.Proofs.YtbnabodoabimnaaGreat
set_option linter.unusedVariables false
set_option linter.unusedSimpArgs false
structure Tst where
 X:List Int
 W:List Int
 O:List Int
 op:List Nat
 pt:List (Nat × Nat)
 c:Nat
def Wh (L:List Int) (d:Int) (v:Nat):Int:=(L[v]?).getD d
def Tst.S (p:Tst):TJ:={ idx:=Wh p.X 0,low:=Wh p.W 0,out:=Wh p.O (-1),opn:=p.op,pth:=p.pt,cnt:=p.c }
theorem DC {L:List Int} {d a:Int} {v:Nat} (h:v<L.length):Wh (L.set v a) d=upd (Wh L d) v a:=by
 funext u
 unfold Wh upd
 by_cases e:u=v
 ·subst e;rw [if_pos rfl,gEc h];rfl
 rw [if_neg e,gE5 (fun h=>e h.symm)]
theorem BQ {L:List Int} {d:Int} {v:Nat} (h:v<L.length):Wh L d v=L[v]:=by simp [Wh,h]
def Wi (t:Bool) (R:List (List Ar)) (v:Nat):List Nat:=(BP t (R.getD v [])).map fun a=>a.2.toNat

structure Tst.Ok (E:Nat->List Nat) (n:Nat) (p:Tst):Prop where
 ti:TI E n p.S
 lX:p.X.length=n
 lW:p.W.length=n
 lO:p.O.length=n
 cz:p.c+p.X.count 0=n

variable {E : Nat -> List Nat} {n : Nat} {p : Tst} {Q : List (Nat × Nat)} {v k : Nat}
def HdA (E:Nat->List Nat) (n:Nat) (p:Tst):Prop:=∃ (P1:List (Nat × Nat)) (t:Nat) (q:List (Nat × Nat)),p.pt=P1++[(t,0)]/\t<n/\Wh p.X 0 t=0/\Tst.Ok E n { p with pt:=q }/\
 (∀ g k,(g,k)∈P1->∃ k0,(g,k0)∈q)/\(∀ g k0,(g,k0)∈q->(g,k0)∈P1\/((g,k0+1)∈P1/\(E g)[k0]?=some t))/\
 (P1.Pairwise fun a b=>Wh p.X 0 a.1<Wh p.X 0 b.1)/\(∀ g k,(g,k)∈q->Rc E g t)/\∀ g k,(g,k)∈P1->1<=k
def Wj (E:Nat->List Nat) (n:Nat) (p:Tst):Prop:=Tst.Ok E n p/\∀ g k,(g,k)∈p.pt->1<=k
def Hd (E:Nat->List Nat) (n:Nat) (b:Bool) (p:Tst):Prop:=if b then HdA E n p else Wj E n p
def Tst.ms (b:Bool) (p:Tst):Nat:=2*p.X.count 0+p.pt.length - (if b then 2 else 0)
def Mid (E:Nat->List Nat) (n:Nat) (p:Tst) (Q:List (Nat × Nat)) (v k:Nat):Prop:=Tst.Ok E n p/\p.pt=Q++[(v,k)]/\∀ g j,(g,j)∈Q->1<=j

theorem Lp {L:List Int} {t:Nat} {a:Int} (ht:t<L.length) (h0:L[t]=0) (ha:a ≠ 0):(L.set t a).count 0+1=L.count 0:=by
 induction L generalizing t with
 | nil=>simp at ht
 | cons x r ih=>
  cases t with
  | zero=>
   simp at h0;subst h0
   rw [gBj,List.count_cons_of_ne ha,List.count_cons_self]
  | succ t=>
   rw [gBi]
   have:=ih (t:=t) (by simpa using ht) (by simpa using h0)
   rw [List.count_cons,List.count_cons]
   omega
theorem Mid.lt (h:Mid E n p Q v k):v<n:=by
 obtain ⟨h1,h2,_⟩:=h
 exact h1.ti.lt v (h1.ti.top (S:=p.S) (show p.S.pth=_ from h2)).1.1
theorem Mid.ms (h:Mid E n p Q v k):p.pt.length=Q.length+1:=by rw [h.2.1];simp

theorem HdA.visit (h:HdA E n p):∃ (P1:List (Nat × Nat)) (t:Nat),p.pt=P1++[(t,0)]/\t<n/\Mid E n { p with X:=p.X.set t (p.c+1),W:=p.W.set t (p.c+1),op:=p.op++[t],c:=p.c+1 } P1 t 0/\2*(p.X.set t (p.c+1)).count 0+p.pt.length=p.ms true/\p.c+1<=n:=by
 obtain ⟨P1,t,q,h1,h2,h3,h4,h5,h6,h7,h8,h9⟩:=h
 have hX:=h4.lX;have hW:=h4.lW
 simp only at hX hW
 have htX:t<p.X.length:=by omega
 have h0:p.X[t]=0:=by rw [<- BQ (d:=0) htX];exact h3
 have hc:=Lp (a:=(p.c:Int)+1) htX h0 (by omega)
 have hz:=h4.cz
 simp only at hz
 refine ⟨P1,t,h1,h2,⟨⟨?_,by simpa using hX,by simpa using hW,h4.lO,?_⟩,h1,h9⟩,?_,by omega⟩
 rotate_left
 ·simp only;omega
 ·simp only [Tst.ms,if_true];omega
 have:=h4.ti.visit (t:=t) (P1:=P1) h2 h3 h5 h6 h7 h8
 simp only [Tst.S] at this ⊢
 rw [DC htX,DC (by omega),h1]
 simpa using this

theorem Mid.push (h:Mid E n p Q v k) {t:Nat} (ht:(E v)[k]?=some t) (hn:t<n) (h0:Wh p.X 0 t=0):HdA E n { p with pt:=Q++[(v,k+1)]++[(t,0)] }:=by
 obtain ⟨h1,h2,h3⟩:=h
 obtain ⟨t1,t2,t3⟩:=h1.ti.top (S:=p.S) (show p.S.pth=_ from h2)
 have hS:p.S.pth=p.pt:=rfl
 refine ⟨Q++[(v,k+1)],t,p.pt,rfl,hn,h0,h1,?_,?_,?_,?_,?_⟩
 rotate_left 4
 ·intro g j hg
  rcases gB0.1 hg with hg | hg
  ·exact h3 g j hg
  simp at hg;omega
 ·intro g j hg
  rcases gB0.1 hg with hg | hg
  ·exact ⟨j,by rw [h2];exact gB1 _ hg⟩
  simp at hg;exact ⟨k,by rw [h2,hg.1];simp⟩
 ·intro g j hg
  rw [h2] at hg
  rcases gB0.1 hg with hg | hg
  ·exact .inl (gB1 _ hg)
  simp at hg;obtain ⟨rfl,rfl⟩:=hg;exact .inr ⟨by simp,ht⟩
 ·have:=h1.ti.psr
  rw [show p.S.pth=_ from h2,gBd] at this
  rw [gBd]
  exact ⟨this.1,by simp,fun a ha b hb=>by simp at hb;subst hb;exact this.2.2 a ha (v,k) (by simp)⟩
 intro g j hg
 have hle:p.S.idx g<=p.S.idx v:=by
  rcases (t3 g j).1 hg with h | ⟨h,_⟩
  ·exact Int.le_of_lt (t2 g j h).2
  rw [h];exact gAc _
 exact (h1.ti.rch g j hg v t1 hle).tail (gE9 ht)

theorem Mid.edge1 (h:Mid E n p Q v k) {t:Nat} (ht:(E v)[k]?=some t) (hv:0<Wh p.X 0 t) (ho:0<=Wh p.O (-1) t):Mid E n { p with pt:=Q++[(v,k+1)] } Q v (k+1):=by
 obtain ⟨h1,h2,h3⟩:=h
 obtain ⟨t1,t2,t3⟩:=h1.ti.top (S:=p.S) (show p.S.pth=_ from h2)
 refine ⟨⟨?_,h1.lX,h1.lW,h1.lO,h1.cz⟩,rfl,h3⟩
 obtain ⟨l1,w,l2,l3,l4⟩:=h1.ti.lw v t1
 exact h1.ti.edge (L:=p.S.low) h2 ht hv (fun _ _=>rfl) (gAc _) (fun hh=>absurd hh.2 (by show ¬ Wh p.O (-1) t<0;omega)) ⟨w,l2,l3,l4⟩
def Wk (a b:Int):Int:=if b<a then b else a
theorem ML (a b:Int):Wk a b=min a b:=by unfold Wk;split <;> omega
theorem Mid.edge2 (h:Mid E n p Q v k) {t:Nat} (ht:(E v)[k]?=some t) (hv:0<Wh p.X 0 t) (ho:Wh p.O (-1) t<0):Mid E n { p with W:=p.W.set v (Wk (Wh p.W 0 v) (Wh p.X 0 t)),pt:=Q++[(v,k+1)] } Q v (k+1):=by
 have hvn:=h.lt
 obtain ⟨h1,h2,h3⟩:=h
 obtain ⟨t1,t2,t3⟩:=h1.ti.top (S:=p.S) (show p.S.pth=_ from h2)
 refine ⟨⟨?_,h1.lX,by simpa using h1.lW,h1.lO,h1.cz⟩,rfl,h3⟩
 obtain ⟨l1,w,l2,l3,l4⟩:=h1.ti.lw v t1
 have:=h1.ti.edge (L:=upd p.S.low v (Wk (Wh p.W 0 v) (Wh p.X 0 t))) h2 ht hv (fun u hu=>B7 hu) (by rw [BM,ML];exact Int.min_le_left _ _) (fun _=>by rw [BM,ML];exact Int.min_le_right _ _) (by
  rw [BM]
  unfold Wk
  split
  ·exact ⟨t,⟨hv,ho⟩,Rc.one (gE9 ht),rfl⟩
  ·exact ⟨w,l2,l3,l4⟩)
 simp only [Tst.S] at this ⊢
 rw [DC (by rw [h1.lW];exact hvn)]
 exact this

def Ez (W:List Int) (v:Nat) (Q:List (Nat × Nat)):List Int:=match Q.getLast? with
 | none=>W
 | some (u,_)=>W.set u (Wk (Wh W 0 u) (Wh W 0 v))
theorem I7 (W:List Int) (v:Nat) (Q:List (Nat × Nat)):(Ez W v Q).length=W.length:=by unfold Ez;split <;> simp
theorem Mid.lup (h:Mid E n p Q v k):Wg p.S v Q (Wh (Ez p.W v Q) 0):=by
 obtain ⟨h1,h2,h3⟩:=h
 obtain ⟨t1,t2,t3⟩:=h1.ti.top (S:=p.S) (show p.S.pth=_ from h2)
 rcases List.eq_nil_or_concat Q with e | ⟨Q',⟨u,j⟩,e⟩
 ·exact .inl ⟨e,by subst e;rfl⟩
 refine .inr ⟨Q',u,j,by rw [e,List.concat_eq_append],?_⟩
 have hu:u<n:=h1.ti.lt u (h1.ti.pop u j ((t3 u j).2 (.inl (by rw [e];simp)))).1
 have e2:Ez p.W v Q=p.W.set u (Wk (Wh p.W 0 u) (Wh p.W 0 v)):=by unfold Ez;rw [e];simp
 rw [e2,DC (by rw [h1.lW];exact hu),ML]
 rfl
theorem Mid.pop (h:Mid E n p Q v k) (hk:(E v).length<=k) (hl:Wh p.W 0 v ≠ Wh p.X 0 v):Wj E n { p with W:=Ez p.W v Q,pt:=Q }:=
 ⟨⟨h.1.ti.pop_ h.2.1 hk hl h.lup,h.1.lX,by simp only [I7];exact h.1.lW,h.1.lO,h.1.cz⟩,h.2.2⟩

theorem Fs {l:List Nat} {v:Nat}:(v:Int)∈l.map Int.ofNat↔v∈l:=by
 rw [gB7]
 constructor
 rotate_left
 ·intro h;exact ⟨v,h,rfl⟩
 rintro ⟨a,h1,h2⟩;have:a=v:=Int.ofNat.inj h2
 exact this ▸ h1
theorem Kc {W:List Int} {l:List Nat} {x:Int} (hl:∀ v∈l,v<W.length) (v:Nat):Wh (Eg W (l.map Int.ofNat) x) (-1) v=if v∈l then x else Wh W (-1) v:=by
 unfold Wh
 rcases gBx v W.length with h | h
 rotate_left
 ·rw [if_neg (fun e=>by have:=hl v e;omega),gAB (by rw [FQ];exact h),gAB h]
 rw [MD _ _ _ _ h (fun a ha=>by obtain ⟨b,_,rfl⟩:=gB7.1 ha;exact Int.natCast_nonneg b)]
 by_cases e:v∈l
 ·rw [if_pos (Fs.2 e),if_pos e];rfl
 rw [if_neg (fun h=>e (Fs.1 h)),if_neg e]
theorem Mid.split (h:Mid E n p Q v k):∃ O1 O2,p.op=O1++v :: O2/\(∀ u∈O1,Wh p.X 0 u<Wh p.X 0 v)/\(∀ u∈O2,Wh p.X 0 v<Wh p.X 0 u)/\∀ u∈p.op,u<n:=by
 obtain ⟨h1,h2,h3⟩:=h
 obtain ⟨t1,t2,t3⟩:=h1.ti.top (S:=p.S) (show p.S.pth=_ from h2)
 obtain ⟨O1,O2,e⟩:=List.append_of_mem ((h1.ti.opn v).2 t1)
 have hs:=h1.ti.srt
 rw [e,gBd,gBe] at hs
 exact ⟨O1,O2,e,fun u hu=>hs.2.2 u hu v (by simp),fun u hu=>hs.2.1.1 u hu,fun u hu=>h1.ti.lt u ((h1.ti.opn u).1 hu).1⟩
theorem Mid.close (h:Mid E n p Q v k) (hk:(E v).length<=k) (hl:Wh p.W 0 v=Wh p.X 0 v) {O1 O2:List Nat} (ho:p.op=O1++v :: O2):
  Wj E n { p with W:=Ez p.W v Q,O:=Eg p.O ((v :: O2).map Int.ofNat) (Gc v ((v :: O2).map Int.ofNat)),op:=O1,pt:=Q }:=by
 obtain ⟨O1',O2',e,b1,b2,b3⟩:=h.split
 have hnd:O1'=O1/\O2'=O2:=by
  rw [ho] at e
  have hs:=h.1.ti.srt
  rw [show p.S.opn=_ from ho,gBd,gBe] at hs
  have nv:v ∉ O1:=fun hv=>absurd (hs.2.2 v hv v (by simp)) (Int.lt_irrefl _)
  have nv':v ∉ O1':=fun hv=>absurd (b1 v hv) (Int.lt_irrefl _)
  rcases List.append_eq_append_iff.1 e with ⟨a,e1,e2⟩ | ⟨a,e1,e2⟩
  rotate_left
  ·cases a with
   | nil=>simp at e1 e2;exact ⟨e1.symm,e2⟩
   | cons x r=>simp at e2;exact absurd (by rw [e1,<- e2.1];simp) nv
  cases a with
  | nil=>simp at e1 e2;exact ⟨e1,e2.symm⟩
  | cons x r=>simp at e2;exact absurd (by rw [e1,<- e2.1];simp) nv'
 obtain ⟨rfl,rfl⟩:=hnd
 obtain ⟨t1,t2,t3⟩:=h.1.ti.top (S:=p.S) (show p.S.pth=_ from h.2.1)
 have hseg:∀ u,p.S.seg v u↔u∈v :: O2':=by
  intro u
  constructor
  rotate_left
  ·intro hu
   refine ⟨(h.1.ti.opn u).1 (by rw [show p.S.opn=_ from ho];exact List.mem_append_right _ hu),?_⟩
   rcases gB2.1 hu with rfl | hu
   ·exact gAc _
   exact Int.le_of_lt (b2 u hu)
  rintro ⟨s1,s2⟩
  have:=(h.1.ti.opn u).2 s1
  rw [show p.S.opn=_ from ho,gB0] at this
  rcases this with hu | hu
  ·exact absurd (b1 u hu) (by show ¬ Wh p.X 0 u<Wh p.X 0 v;have:Wh p.X 0 v<=Wh p.X 0 u:=s2;omega)
  exact hu
 obtain ⟨m,hm,hmem⟩:∃ m:Nat,Gc v ((v :: O2').map Int.ofNat)=m/\m∈v :: O2':=by
  rcases OT ((v :: O2').map Int.ofNat) v with e | e
  ·exact ⟨v,e,by simp⟩
  obtain ⟨m,h1,h2⟩:=gB7.1 e
  exact ⟨m,h2.symm,h1⟩
 have hle:∀ u∈v :: O2',u<p.O.length:=fun u hu=>by rw [h.1.lO];exact b3 u (by rw [ho];exact List.mem_append_right _ hu)
 refine ⟨⟨?_,h.1.lX,by simp only [I7];exact h.1.lW,by simp only [FQ];exact h.1.lO,h.1.cz⟩,h.2.2⟩
 refine h.1.ti.close (O:=Wh (Eg p.O ((v :: O2').map Int.ofNat) (Gc v ((v :: O2').map Int.ofNat))) (-1)) (O1:=O1') (O2:=v :: O2') (m:=m) h.2.1 hk hl h.lup (fun u hu=>?_) (fun u hu=>?_) ((hseg m).2 hmem) (fun u hu=>?_) ho b1 (fun u hu=>((hseg u).2 hu).2)
 ·rw [Kc hle,if_pos ((hseg u).1 hu),hm]
 ·rw [Kc hle,if_neg (fun e=>hu ((hseg u).2 e))];rfl
 have:=(R9 ((v :: O2').map Int.ofNat) v).2 u (Fs.2 ((hseg u).1 hu))
 rw [hm] at this
 omega
theorem Tst.start:Tst.Ok E n { X:=List.replicate n 0,W:=List.replicate n 0,O:=List.replicate n (-1),op:=[],pt:=[],c:=0 }:=by
 refine ⟨?_,by simp,by simp,by simp,by simp⟩
 have e1:Wh (List.replicate n 0) 0=fun _=>0:=by
  funext v;unfold Wh;rw [gAD];split <;> rfl
 have e2:Wh (List.replicate n (-1)) (-1)=fun _ => -1:=by
  funext v;unfold Wh;rw [gAD];split <;> rfl
 simp only [Tst.S,e1,e2]
 exact TI.start
theorem Kd:∀ (L:List Int) (a b:Int),L.Pairwise (· < ·)->(∀ x∈L,a<x/\x<=b)->(L.length:Int)<=b - a\/L=[]:=by
 intro L
 induction L with
 | nil=>intro a b _ _;exact .inr rfl
 | cons x r ih=>
  intro a b hp hx
  rw [gBe] at hp
  have h1:=hx x (by simp)
  rcases ih x b hp.2 (fun y hy=>⟨hp.1 y hy,(hx y (by simp [hy])).2⟩) with h | h
  ·left;rw [gAJ];omega
  left;subst h;simp;omega
theorem Tst.Ok.len (h:Tst.Ok E n p):p.pt.length<=n/\p.op.length<=n/\p.c<=n:=by
 have hz:=h.cz
 have hc:p.c<=n:=by omega
 refine ⟨?_,?_,hc⟩
 rotate_left
 ·have h1:=h.ti.srt
  have:=Kd (p.op.map fun f=>Wh p.X 0 f) 0 p.c (by rw [List.pairwise_map];exact h1) (fun x hx=>by
   obtain ⟨f,hf,rfl⟩:=gB7.1 hx
   exact ⟨((h.ti.opn f).1 hf).1,h.ti.cnt f⟩)
  rw [gAN] at this
  rcases this with h | h
  ·omega
  have:p.op=[]:=List.map_eq_nil_iff.1 h
  rw [this];simp
 have h1:=h.ti.psr
 have:=Kd (p.pt.map fun f=>Wh p.X 0 f.1) 0 p.c (by rw [List.pairwise_map];exact h1) (fun x hx=>by
  obtain ⟨f,hf,rfl⟩:=gB7.1 hx
  exact ⟨(h.ti.pop f.1 f.2 hf).1,h.ti.cnt f.1⟩)
 rw [gAN] at this
 rcases this with h | h
 ·omega
 have:p.pt=[]:=List.map_eq_nil_iff.1 h
 rw [this];simp
theorem Tst.Ok.root (h:Tst.Ok E n p) (hp:p.pt=[]) {t:Nat} (ht:t<n) (h0:Wh p.X 0 t=0):HdA E n { p with pt:=[(t,0)] }:=
 ⟨[],t,[],rfl,ht,h0,by rw [<- hp];exact h,by simp,by simp,by simp,by simp,by simp⟩
end Go.Proofs.YtbnabodoabimnaaGreat
