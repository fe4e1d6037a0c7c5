/- Lemmas. -/
import Derived.Test.YtjijjfkalheokaaGreatDoorG45
import Derived.Test.YtjijjfkalheokaaGreatDoorG70
namespace Go.Proofs.YtjijjfkalheokaaGreatDoor
set_option linter.unusedVariables false
set_option linter.unusedSimpArgs false

section
variable {α β : Type} [DecidableEq α] [DecidableEq β]
def Xh (f:Nat->α):Nat->List Int × Nat
 | 0=>([],0)
 | k+1=>match (List.range k).find? (fun t=>decide (f t=f k)) with
  | some t=>((Xh f k).1++[(Xh f k).1.getD t 0],(Xh f k).2)
  | none=>((Xh f k).1++[((Xh f k).2:Int)],(Xh f k).2+1)
theorem Do {f:Nat->α} {k t:Nat} (h:(List.range k).find? (fun t=>decide (f t=f k))=some t):Xh f (k+1)=((Xh f k).1++[(Xh f k).1.getD t 0],(Xh f k).2):=by rw [Xh,h]
theorem Dp {f:Nat->α} {k:Nat} (h:(List.range k).find? (fun t=>decide (f t=f k))=none):Xh f (k+1)=((Xh f k).1++[((Xh f k).2:Int)],(Xh f k).2+1):=by rw [Xh,h]
theorem DD {f:Nat->α} {k t:Nat} (ht:t<k) (h:f t=f k) (hn:∀ u,u<t->f u ≠ f k):(List.range k).find? (fun t=>decide (f t=f k))=some t:=by
 rw [List.find?_range_eq_some]
 exact ⟨by simpa using h,by simpa using ht,fun j hj=>by simpa using hn j hj⟩
theorem DE {f:Nat->α} {k:Nat} (hn:∀ u,u<k->f u ≠ f k):(List.range k).find? (fun t=>decide (f t=f k))=none:=by
 rw [List.find?_range_eq_none]
 exact fun j hj=>by simpa using hn j hj
theorem FK (f:Nat->α) (k:Nat):(∃ t,t<k/\f t=f k/\(∀ u,u<t->f u ≠ f k)/\Xh f (k+1)=((Xh f k).1++[(Xh f k).1.getD t 0],(Xh f k).2))\/((∀ u,u<k->f u ≠ f k)/\Xh f (k+1)=((Xh f k).1++[((Xh f k).2:Int)],(Xh f k).2+1)):=by
 cases h:(List.range k).find? (fun t=>decide (f t=f k)) with
 | some t=>
  have h2:=List.find?_range_eq_some.1 h
  exact .inl ⟨t,by simpa using h2.2.1,by simpa using h2.1,fun u hu=>by simpa using h2.2.2 u hu,Do h⟩
 | none=>
  have h2:=List.find?_range_eq_none.1 h
  exact .inr ⟨fun u hu=>by simpa using h2 u hu,Dp h⟩
structure NmOk (f:Nat->α) (k:Nat) (p:List Int × Nat):Prop where
 len:p.1.length=k
 eq:∀ s t,s<k->t<k->(p.1.getD s 0=p.1.getD t 0↔f s=f t)
 rng:∀ s,s<k->0<=p.1.getD s 0/\p.1.getD s 0<(p.2:Int)
 cnt:p.2<=k
theorem CW {l:List Int} {x:Int} {s:Nat} (h:s<l.length):(l++[x]).getD s 0=l.getD s 0:=by
 rw [gE2,gEa h,<- gE2]
theorem DF {l:List Int} {x:Int} {s:Nat} (h:s=l.length):(l++[x]).getD s 0=x:=by
 subst h
 rw [gE2,gEb (Nat.le_refl _),Nat.sub_self];rfl
theorem Cx (f:Nat->α) (k:Nat):NmOk f k (Xh f k):=by
 induction k with
 | zero=>exact ⟨rfl,fun s t h=>by omega,fun s h=>by omega,Nat.le_refl _⟩
 | succ k ih=>
  have hl:=ih.len
  rcases FK f k with ⟨t,h1,h2,h3,h4⟩ | ⟨h3,h4⟩
  ·rw [h4]
   generalize Xh f k=p at *
   have g1:∀ s,s<k->(p.1++[p.1.getD t 0]).getD s 0=p.1.getD s 0:=fun s hs=>CW (by omega)
   have g2:(p.1++[p.1.getD t 0]).getD k 0=p.1.getD t 0:=DF hl.symm
   refine ⟨by simp [hl],fun s u hs hu=>?_,fun s hs=>?_,by have:=ih.cnt;simp only;omega⟩
   rotate_left
   ·simp only
    rcases Nat.lt_or_ge s k with a | a
    ·rw [g1 s a];exact ih.rng s a
    have:s=k:=by omega
    subst this;rw [g2];exact ih.rng t h1
   simp only
   rcases Nat.lt_or_ge s k with a | a <;> rcases Nat.lt_or_ge u k with b | b
   ·rw [g1 s a,g1 u b];exact ih.eq s u a b
   ·have:u=k:=by omega
    subst this
    rw [g1 s a,g2,ih.eq s t a h1,h2]
   ·have:s=k:=by omega
    subst this
    rw [g1 u b,g2,ih.eq t u h1 b,h2]
   have e1:s=k:=by omega
   have e2:u=k:=by omega
   subst e1;subst e2;simp
  rw [h4]
  generalize Xh f k=p at *
  have g1:∀ s,s<k->(p.1++[(p.2:Int)]).getD s 0=p.1.getD s 0:=fun s hs=>CW (by omega)
  have g2:(p.1++[(p.2:Int)]).getD k 0=p.2:=DF hl.symm
  refine ⟨by simp [hl],fun s u hs hu=>?_,fun s hs=>?_,by have:=ih.cnt;simp only;omega⟩
  rotate_left
  ·simp only
   rcases Nat.lt_or_ge s k with a | a
   ·rw [g1 s a];have:=ih.rng s a;omega
   have:s=k:=by omega
   subst this;rw [g2];omega
  simp only
  rcases Nat.lt_or_ge s k with a | a <;> rcases Nat.lt_or_ge u k with b | b
  rotate_left 3
  ·have e1:s=k:=by omega
   have e2:u=k:=by omega
   subst e1;subst e2;simp
  ·rw [g1 s a,g1 u b];exact ih.eq s u a b
  ·have:u=k:=by omega
   subst this
   rw [g1 s a,g2]
   have:=ih.rng s a
   exact ⟨fun e=>by omega,fun e=>absurd e (h3 s a)⟩
  have:s=k:=by omega
  subst this
  rw [g1 u b,g2]
  have:=ih.rng u b
  exact ⟨fun e=>by omega,fun e=>absurd e.symm (h3 u b)⟩
theorem Ny {f:Nat->α} {g:Nat->β}:∀ k,(∀ s t,s<k->t<k->(f s=f t↔g s=g t))->Xh f k=Xh g k:=by
 intro k
 induction k with
 | zero=>intro _;rfl
 | succ k ih=>
  intro h
  have ih2:=ih fun s t hs ht=>h s t (by omega) (by omega)
  rcases FK f k with ⟨t,h1,h2,h3,h4⟩ | ⟨h3,h4⟩
  ·rw [h4,Do (f:=g) (DD h1 ((h t k (by omega) (by omega)).1 h2) fun u hu e=>h3 u hu ((h u k (by omega) (by omega)).2 e)),ih2]
  rw [h4,Dp (f:=g) (DE fun u hu e=>h3 u hu ((h u k (by omega) (by omega)).2 e)),ih2]
theorem KH (f:Nat->α) (n:Nat):Xh (fun s=>(Xh f n).1.getD s 0) n=Xh f n:=Ny n fun s t hs ht=>(Cx f n).eq s t hs ht
def PX (f:Nat->α) (k:Nat):Bool:=(List.range k).all fun t=>!decide (f t=f k)
theorem DU {f:Nat->α} {k:Nat}:PX f k=true↔∀ t,t<k->f t ≠ f k:=by simp [PX]
theorem KI (f:Nat->α) (k:Nat):(Xh f k).2=(List.range k).countP (PX f):=by
 induction k with
 | zero=>rfl
 | succ k ih=>
  rw [List.range_succ,List.countP_append,<- ih]
  rcases FK f k with ⟨t,h1,h2,h3,h4⟩ | ⟨h3,h4⟩
  rotate_left
  ·have:PX f k=true:=DU.2 h3
   rw [h4];simp [this]
  have:PX f k=false:=by
   rw [<- Bool.not_eq_true,DU]
   exact fun h=>h t h1 h2
  rw [h4];simp [this]
theorem EF {γ:Type} {p q:γ->Bool}:∀ {l:List γ},(∀ x∈l,p x=true->q x=true)->l.countP p=l.countP q->∀ x∈l,q x=true->p x=true
 | [],_,_,x,hx,_=>by simp at hx
 | a :: r,h,e,x,hx,hq=>by
  have hle:=List.countP_mono_left (p:=p) (q:=q) (l:=r) fun y hy=>h y (gEf _ hy)
  rw [List.countP_cons,List.countP_cons] at e
  have ha:=h a (by simp)
  rcases List.mem_cons.1 hx with rfl | hx
  ·cases hp:p x with
   | true=>rfl
   | false=>rw [hp,hq] at e;simp at e;omega
  ·refine EF (fun y hy=>h y (gEf _ hy)) ?_ x hx hq
   cases hp:p a with
   | true=>rw [hp,ha hp] at e;simp at e;exact e
   | false=>
    rw [hp] at e
    cases hqa:q a with
    | true=>rw [hqa] at e;simp at e;omega
    | false=>rw [hqa] at e;simpa using e
theorem KJ {f:Nat->α} (s:Nat):∃ t,t<=s/\f t=f s/\PX f t=true:=by
 induction s using Nat.strongRecOn with
 | _ s ih=>
  cases h:PX f s with
  | true=>exact ⟨s,Nat.le_refl _,rfl,h⟩
  | false=>
   have:¬ ∀ t,t<s->f t ≠ f s:=fun q=>by rw [DU.2 q] at h;cases h
   obtain ⟨t,ht,e⟩:∃ t,t<s/\f t=f s:=Classical.byContradiction fun q=>this fun t ht e=>q ⟨t,ht,e⟩
   obtain ⟨u,h1,h2,h3⟩:=ih t ht
   exact ⟨u,by omega,h2.trans e,h3⟩
theorem Nz {f:Nat->α} {g:Nat->β} {n:Nat} (h:∀ s t,s<n->t<n->g s=g t->f s=f t):(Xh f n).2<=(Xh g n).2/\((Xh f n).2=(Xh g n).2->Xh f n=Xh g n):=by
 have hsub:∀ k∈List.range n,PX f k=true->PX g k=true:=fun k hk hf=>by
  rw [List.mem_range] at hk
  rw [DU] at hf ⊢
  exact fun t ht e=>hf t ht (h t k (by omega) hk e)
 rw [KI,KI]
 refine ⟨List.countP_mono_left hsub,fun e=>Ny n fun s t hs ht=>⟨fun hf=>?_,h s t hs ht⟩⟩
 have hback:=EF hsub e
 obtain ⟨s1,a1,a2,a3⟩:=KJ (f:=g) s
 obtain ⟨t1,b1,b2,b3⟩:=KJ (f:=g) t
 have c1:=DU.1 (hback s1 (List.mem_range.2 (by omega)) a3)
 have c2:=DU.1 (hback t1 (List.mem_range.2 (by omega)) b3)
 have d1:f s1=f s:=h s1 s (by omega) hs a2
 have d2:f t1=f t:=h t1 t (by omega) ht b2
 have e3:f s1=f t1:=by rw [d1,d2,hf]
 have e4:s1=t1:=by
  rcases Nat.lt_trichotomy s1 t1 with q | q | q
  ·exact absurd e3 (c2 s1 q)
  ·exact q
  exact absurd e3.symm (c1 t1 q)
 rw [<- a2,<- b2,e4]
end
def Xi (S:List (List Ar)) (c:List Int) (s:Nat):List Ar:=Cq ((S.getD s []).map fun a=>(a.1,c.getD a.2.toNat 0))
theorem DG {S:List (List Ar)} {c:List Int} {s:Nat} {x:Ar}:x∈Xi S c s↔∃ a∈S.getD s [],x=(a.1,c.getD a.2.toNat 0):=by
 unfold Xi
 rw [C8,List.mem_map]
 exact ⟨fun ⟨a,h1,h2⟩=>⟨a,h1,h2.symm⟩,fun ⟨a,h1,h2⟩=>⟨a,h1,h2.symm⟩⟩
def LN (c:List Int) (row:List Ar) (e x:Int):Bool:=row.any fun a=>a.1 == e && c.getD a.2.toNat 0 == x
def Iy (c:List Int) (a b:List Ar):Bool:=a.all fun x=>LN c b x.1 (c.getD x.2.toNat 0)
theorem Se {S:List (List Ar)} {c:List Int} {s t:Nat}:Xi S c s=Xi S c t↔Iy c (S.getD s []) (S.getD t [])=true/\Iy c (S.getD t []) (S.getD s [])=true:=by
 have key:∀ s t,Iy c (S.getD s []) (S.getD t [])=true↔∀ x∈Xi S c s,x∈Xi S c t:=by
  intro s t
  simp only [Iy,LN,List.all_eq_true,List.any_eq_true,Bool.and_eq_true,beq_iff_eq]
  constructor
  ·intro h x hx
   obtain ⟨a,ha,rfl⟩:=DG.1 hx
   obtain ⟨b,hb,h1,h2⟩:=h a ha
   exact DG.2 ⟨b,hb,by rw [h1,h2]⟩
  intro h a ha
  obtain ⟨b,hb,e⟩:=DG.1 (h _ (DG.2 ⟨a,ha,rfl⟩))
  injection e with e1 e2
  exact ⟨b,hb,e1.symm,e2.symm⟩
 rw [key,key]
 constructor
 ·intro h;rw [h];exact ⟨fun _ h=>h,fun _ h=>h⟩
 rintro ⟨h1,h2⟩
 exact Cg (B9 _) (B9 _) fun x=>⟨h1 x,h2 x⟩
def Xj (S:List (List Ar)) (c:List Int) (s:Nat):Int × List Ar:=(c.getD s 0,Xi S c s)
def Xk (S:List (List Ar)) (c:List Int):List Int:=(Xh (Xj S c) S.length).1
def Xl (S:List (List Ar)) (c:List Int):Nat->List Int
 | 0=>c
 | k+1=>Xk S (Xl S c k)
def FxS (S:List (List Ar)) (c d:List Int):Prop:=∃ k,d=Xl S c k/\Xk S d=d
theorem FxS.stay {S:List (List Ar)} {c:List Int} {k j:Nat} (h:Xk S (Xl S c k)=Xl S c k) (hj:k<=j):Xl S c j=Xl S c k:=by
 induction j with
 | zero=>
  have:k=0:=by omega
  subst this;rfl
 | succ j ih=>
  by_cases e:k=j+1
  ·subst e;rfl
  rw [Xl,ih (by omega),h]
theorem FxS.uniq {S:List (List Ar)} {c d e:List Int} (h1:FxS S c d) (h2:FxS S c e):d=e:=by
 obtain ⟨k,rfl,hk⟩:=h1
 obtain ⟨j,rfl,hj⟩:=h2
 rcases Nat.le_total k j with h | h
 ·exact (FxS.stay hk h).symm
 exact FxS.stay hj h
def Nrm (n:Nat) (c:List Int):Prop:=(Xh (fun s=>c.getD s 0) n).1=c
def F9 (n:Nat) (c:List Int):Nat:=(Xh (fun s=>c.getD s 0) n).2
theorem Rb {α:Type} [DecidableEq α] (f:Nat->α) (n:Nat):Nrm n (Xh f n).1:=by unfold Nrm;rw [KH]
theorem NA {α:Type} [DecidableEq α] (f:Nat->α) (n:Nat):F9 n (Xh f n).1=(Xh f n).2:=by unfold F9;rw [KH]
theorem Nrm.len {n:Nat} {c:List Int} (h:Nrm n c):c.length=n:=by rw [<- h];exact (Cx _ n).len
theorem Nrm.rng {n:Nat} {c:List Int} (h:Nrm n c):∀ x∈c,0<=x/\x<(n:Int):=fun x hx=>by
 obtain ⟨i,hi,rfl⟩:=List.getElem_of_mem hx
 have hl:=h.len
 have h1:=(Cx (fun s=>c.getD s 0) n).rng i (by omega)
 have h2:=(Cx (fun s=>c.getD s 0) n).cnt
 unfold Nrm at h
 rw [h,gE2,gE1 hi,Option.getD_some] at h1
 omega
theorem NB (S:List (List Ar)) (c:List Int):Nrm S.length (Xk S c):=Rb _ _
theorem U4 {S:List (List Ar)} {c:List Int} (h:Nrm S.length c) (hne:Xk S c ≠ c):F9 S.length c<F9 S.length (Xk S c):=by
 have hr:=Nz (f:=fun s=>c.getD s 0) (g:=Xj S c) (n:=S.length) fun s t _ _ e=>by
  have:=congrArg Prod.fst e
  exact this
 have e1:F9 S.length (Xk S c)=(Xh (Xj S c) S.length).2:=NA _ _
 rw [e1]
 unfold F9
 rcases Nat.lt_or_eq_of_le hr.1 with q | q
 ·exact q
 exfalso
 apply hne
 have:=hr.2 q
 unfold Xk
 rw [<- this]
 exact h
theorem KK (n:Nat) (c:List Int):F9 n c<=n:=(Cx _ n).cnt
open Go.RowKit
def Xm (acc:List Int) (r:List Ar):List Int:=r.foldl (fun acc a=>Fu a.1 acc) acc
def Xn (R:List (List Ar)) (k:Nat):List Int:=(R.take k).foldl Xm [0]
theorem PY (acc:List Int) (r:List Ar) (a:Ar):Xm acc (r++[a])=Fu a.1 (Xm acc r):=by unfold Xm;rw [List.foldl_append];rfl
theorem KL {R:List (List Ar)} {k:Nat} (h:k<R.length):Xn R (k+1)=Xm (Xn R k) R[k]:=by
 unfold Xn
 rw [gE8 h,List.foldl_append];rfl
theorem Gp {x:Int}:∀ (r:List Ar) (acc:List Int),x∈Xm acc r↔x∈acc\/∃ a∈r,a.1=x
 | [],acc=>by simp [Xm]
 | a :: r,acc=>by
  show x∈Xm (Fu a.1 acc) r↔_
  rw [Gp r,DN]
  simp only [List.mem_cons,exists_eq_or_imp]
  constructor
  ·rintro ((rfl | h) | h)
   ·exact .inr (.inl rfl)
   ·exact .inl h
   ·exact .inr (.inr h)
  ·rintro (h | h | h)
   ·exact .inl (.inr h)
   ·exact .inl (.inl h.symm)
   ·exact .inr h
theorem Jo:∀ (r:List Ar) (acc:List Int),WI acc->WI (Xm acc r)
 | [],_,h=>h
 | _ :: r,_,h=>Jo r _ (He h)
theorem Iz {R:List (List Ar)} (hb:∀ r∈R,∀ a∈r,0<=a.1/\a.1<=1025) (k:Nat):k<=R.length->WI (Xn R k)/\(∀ x∈Xn R k,0<=x/\x<1026)/\(0:Int)∈Xn R k/\∀ r∈R.take k,∀ a∈r,a.1∈Xn R k:=by
 induction k with
 | zero=>intro _;exact ⟨by simp [Xn,WI],by simp [Xn],by simp [Xn],by simp⟩
 | succ k ih=>
  intro hk
  obtain ⟨h1,h2,h3,h4⟩:=ih (by omega)
  have hkl:k<R.length:=hk
  rw [KL hkl]
  refine ⟨Jo _ _ h1,fun x hx=>?_,(Gp _ _).2 (.inl h3),fun r hr a ha=>?_⟩
  ·rcases (Gp _ _).1 hx with h | ⟨a,ha,rfl⟩
   ·exact h2 x h
   have:=hb _ (gE6 hkl) a ha;omega
  rw [Gp]
  rw [gE8 hkl] at hr
  rcases List.mem_append.1 hr with h | h
  ·exact .inl (h4 r h a ha)
  simp at h;subst h;exact .inr ⟨a,ha,rfl⟩
noncomputable def Xo (R:List (List Ar)) (s:Nat):List Nat:=FJ R.length (fun u=>@decide (Rc (WP true R) s u) (Classical.propDecidable _))
theorem Gq {R:List (List Ar)} {s u:Nat}:u∈Xo R s↔u<R.length/\Rc (WP true R) s u:=by
 unfold Xo
 rw [DT]
 simp
noncomputable def Xp (R:List (List Ar)) (s:Nat) (e:Int):List Int:=if e=0 then (Xo R s).map Int.ofNat else (FJ R.length (fun u=>decide (u∈tg R (Xo R s) e))).map Int.ofNat
theorem Jp {R:List (List Ar)} (hlo:BE R=true) {s:Nat} (hs:s<R.length) {e x:Int}:x∈Xp R s e↔(e=0/\∃ u:Nat,x=(u:Int)/\Rc (WP true R) s u)\/(e ≠ 0/\∃ t,Rc (WP true R) s t/\∃ a∈R.getD t [],a.1=e/\a.2=x):=by
 have hE:=Cw true hlo
 unfold Xp
 by_cases e0:e=0
 ·rw [if_pos e0,List.mem_map]
  constructor
  ·rintro ⟨u,hu,rfl⟩
   exact .inl ⟨e0,u,rfl,(Gq.1 hu).2⟩
  rintro (⟨_,u,rfl,hu⟩ | ⟨h,_⟩)
  ·exact ⟨u,Gq.2 ⟨hu.lt hs hE,hu⟩,rfl⟩
  exact absurd e0 h
 rw [if_neg e0,List.mem_map]
 constructor
 ·rintro ⟨u,hu,rfl⟩
  rw [DT,decide_eq_true_iff,Ra] at hu
  obtain ⟨_,t,ht,h2⟩:=hu
  obtain ⟨a,ha,h3,h4⟩:=Nq.1 h2
  have htl:=(Gq.1 ht).1
  have hb:0<=a.2:=by
   rw [gE2,gE1 htl,Option.getD_some] at ha
   exact ((gE4 hlo).2.2.2 _ (gE6 htl) a ha).2.2.1
  exact .inr ⟨e0,t,(Gq.1 ht).2,a,ha,h3,by simp only [Int.ofNat_eq_natCast];omega⟩
 rintro (⟨h,_⟩ | ⟨_,t,ht,a,ha,h3,rfl⟩)
 ·exact absurd h e0
 have htl:=ht.lt hs hE
 have hb:=ha
 rw [gE2,gE1 htl,Option.getD_some] at hb
 have hb2:=(gE4 hlo).2.2.2 _ (gE6 htl) a hb
 refine ⟨a.2.toNat,?_,by simp only [Int.ofNat_eq_natCast];omega⟩
 rw [DT,decide_eq_true_iff,Ra]
 exact ⟨by omega,t,Gq.2 ⟨htl,ht⟩,Nq.2 ⟨a,ha,h3,rfl⟩⟩
noncomputable def Xq (R:List (List Ar)) (s:Nat) (e:Int):List Ar:=(Xp R s e).map fun u=>(e,u)
noncomputable def Xr (R:List (List Ar)) (Ev:List Int) (s k:Nat):List Ar:=(Ev.take k).flatMap (Xq R s)
noncomputable def Xs (R:List (List Ar)) (Ev:List Int) (s:Nat):List Ar:=Xr R Ev s Ev.length
noncomputable def Xt (R:List (List Ar)) (Ev:List Int) (k:Nat):List (List Ar):=(List.range k).map (Xs R Ev)
noncomputable def Tt (R:List (List Ar)):List (List Ar):=Xt R (Xn R R.length) R.length
theorem Hp {R:List (List Ar)} (hv:Bv R=true) {s:Nat} (hs:s<R.length) {a:Ar}:a∈(Tt R).getD s []↔(a.1=0/\∃ u:Nat,a.2=(u:Int)/\Rc (WP true R) s u)\/(a.1 ≠ 0/\∃ t,Rc (WP true R) s t/\a∈R.getD t []):=by
 have hlo:BE R=true:=gEg (gE4 hv).1
 have hg:(Tt R).getD s []=Xs R (Xn R R.length) s:=by simp [Tt,Xt,gE2,hs]
 have hev:=Iz (R:=R) (fun r hr a ha=>by have:=(gE4 hlo).2.2.2 r hr a ha;omega) R.length (Nat.le_refl _)
 rw [List.take_length] at hev
 rw [hg]
 unfold Xs Xr
 rw [List.take_length,List.mem_flatMap]
 constructor
 ·rintro ⟨e,he,h⟩
  obtain ⟨x,hx,rfl⟩:=List.mem_map.1 h
  rcases (Jp hlo hs).1 hx with ⟨h1,u,rfl,h2⟩ | ⟨h1,t,h2,b,hb,h3,h4⟩
  ·exact .inl ⟨h1,u,rfl,h2⟩
  refine .inr ⟨h1,t,h2,?_⟩
  have:b=(e,x):=by rcases b with ⟨p,q⟩;simp only at h3 h4;rw [h3,h4]
  rw [<- this];exact hb
 rintro (⟨h1,u,h2,h3⟩ | ⟨h1,t,h2,h3⟩)
 ·refine ⟨0,hev.2.2.1,List.mem_map.2 ⟨(u:Int),(Jp hlo hs).2 (.inl ⟨rfl,u,rfl,h3⟩),?_⟩⟩
  rcases a with ⟨p,q⟩;simp only at h1 h2 ⊢;rw [h1,h2]
 have htl:=h2.lt hs (Cw true hlo)
 have h4:=h3
 rw [gE2,gE1 htl,Option.getD_some] at h4
 exact ⟨a.1,hev.2.2.2 _ (gE6 htl) a h4,List.mem_map.2 ⟨a.2,(Jp hlo hs).2 (.inr ⟨h1,t,h2,a,h3,rfl,rfl⟩),rfl⟩⟩
def Xu (B:List Bool) (s:Nat):Int:=if B.getD s false=B.getD 0 false then 0 else 1
def Xv (B:List Bool) (n:Nat):List Int:=(List.range n).map (Xu B)
theorem Fa (B:List Bool) (n:Nat):(Xv B n).length=n:=by simp [Xv]
theorem Jq {B:List Bool} {n s:Nat} (h:s<n):(Xv B n).getD s 0=Xu B s:=by simp [Xv,gE2,h]
theorem U5 {B:List Bool}:∀ n,1<=n->(Xh (fun s=>B.getD s false) n).1=Xv B n/\((Xh (fun s=>B.getD s false) n).2=1/\(∀ s,s<n->B.getD s false=B.getD 0 false)\/(Xh (fun s=>B.getD s false) n).2=2/\∃ s,s<n/\B.getD s false ≠ B.getD 0 false):=by
 intro n
 induction n with
 | zero=>intro h;omega
 | succ n ih=>
  intro _
  by_cases h0:n=0
  ·subst h0
   refine ⟨?_,.inl ⟨rfl,fun s hs=>by rw [show s=0 by omega]⟩⟩
   show ([]++[((0:Nat):Int)])=_
   simp [Xv,Xu]
  obtain ⟨h1,h2⟩:=ih (by omega)
  have hd:Xv B (n+1)=Xv B n++[Xu B n]:=by simp [Xv,List.range_succ]
  rcases FK (fun s=>B.getD s false) n with ⟨t,a1,a2,a3,a4⟩ | ⟨a3,a4⟩
  ·rw [a4,hd,h1,Jq a1]
   have e1:Xu B t=Xu B n:=by unfold Xu;rw [a2]
   refine ⟨by rw [e1],?_⟩
   rcases h2 with ⟨b1,b2⟩ | ⟨b1,s,b2,b3⟩
   rotate_left
   ·exact .inr ⟨b1,s,by omega,b3⟩
   refine .inl ⟨b1,fun s hs=>?_⟩
   by_cases e:s=n
   ·subst e;rw [<- a2];exact b2 t a1
   exact b2 s (by omega)
  have hne:=a3 0 (by omega)
  have hone:(Xh (fun s=>B.getD s false) n).2=1:=by
   rcases h2 with ⟨b1,_⟩ | ⟨_,s,b2,b3⟩
   ·exact b1
   exfalso
   have c1:=a3 s b2
   revert hne c1 b3
   generalize B.getD s false=x
   generalize B.getD 0 false=y
   generalize B.getD n false=z
   cases x <;> cases y <;> cases z <;> simp
  rw [a4,hd,h1,hone]
  refine ⟨by unfold Xu;rw [if_neg (Ne.symm hne)];rfl,.inr ⟨rfl,n,by omega,Ne.symm hne⟩⟩
theorem NC (B:List Bool) {n:Nat} (h:1<=n):Nrm n (Xv B n):=by
 rw [<- (U5 n h).1]
 exact Rb _ _
def DlC (R:List (List Ar)) (c:List Int):Prop:=∃ B,DvL R B/\FxS (Tt R) (Xv B R.length) c
abbrev Ed:=Nat × Nat
def Xw (f:Nat->Nat) (s:Nat) (a:Ar):Option Ed:=if a.1=0/\f s ≠ f a.2.toNat then some (f s,f a.2.toNat) else none
def Xx (f:Nat->Nat) (s:Nat) (row:List Ar):List Ed:=row.filterMap (Xw f s)
def Xy (f:Nat->Nat) (R:List (List Ar)) (k:Nat):List Ed:=(List.range k).flatMap fun s=>Xx f s (R.getD s [])
theorem PZ (f:Nat->Nat) (s:Nat) (row:List Ar) (a:Ar):Xx f s (row++[a])=Xx f s row++(Xw f s a).toList:=by
 unfold Xx
 rw [List.filterMap_append]
 cases h:Xw f s a <;> simp [h]
theorem KM (f:Nat->Nat) (R:List (List Ar)) (k:Nat):Xy f R (k+1)=Xy f R k++Xx f k (R.getD k []):=by simp [Xy,List.range_succ]
theorem Fb {f:Nat->Nat} {R:List (List Ar)} {k:Nat} {e:Ed}:e∈Xy f R k↔∃ s,s<k/\∃ a∈R.getD s [],a.1=0/\f s ≠ f a.2.toNat/\e=(f s,f a.2.toNat):=by
 unfold Xy Xx
 simp only [List.mem_flatMap,List.mem_range,List.mem_filterMap]
 constructor
 rotate_left
 ·rintro ⟨s,hs,a,ha,h1,h2,rfl⟩
  exact ⟨s,hs,a,ha,by unfold Xw;rw [if_pos ⟨h1,h2⟩]⟩
 rintro ⟨s,hs,a,ha,h⟩
 unfold Xw at h
 split at h
 rotate_left
 ·cases h
 rename_i hc
 injection h with h
 exact ⟨s,hs,a,ha,hc.1,hc.2,h.symm⟩
theorem ND (f:Nat->Nat) (R:List (List Ar)):∀ k,k<=R.length->(Xy f R k).length<=Bw (R.take k):=by
 intro k
 induction k with
 | zero=>intro _;simp [Xy,Bw]
 | succ k ih=>
  intro hk
  have h1:=ih (by omega)
  have h2:=Cj (R:=R) (k:=k) hk
  have h3:R.getD k []=R[k]:=by rw [gE2,gE1 hk];rfl
  have h4:=List.length_filterMap_le (Xw f k) R[k]
  rw [KM,List.length_append,h3]
  unfold Xx
  omega
def Xz (E:List Ed) (c:Nat):Nat:=E.countP fun e=>e.1 == c
def XA (n:Nat) (E:List Ed):List Int:=(List.range n).map fun c=>(Xz E c:Int)
def XC (E:List Ed) (t:Nat):List Nat:=(E.filter fun e=>e.2 == t).map (·.1)
def En (n:Nat) (E:List Ed):List (List Int):=(List.range n).map fun t=>(XC E t).map Int.ofNat
theorem Gr (n:Nat) (E:List Ed):(XA n E).length=n:=by simp [XA]
theorem Hq {n:Nat} {E:List Ed} {c:Nat} (h:c<n):(XA n E)[c]?=some (Xz E c:Int):=by simp [XA,h]
theorem FL (n:Nat) (E:List Ed):(En n E).length=n:=by simp [En]
theorem KN {n:Nat} {E:List Ed} {t:Nat} (h:t<n):(En n E)[t]?=some ((XC E t).map Int.ofNat):=by simp [En,h]
theorem Q0 (E:List Ed) (c t d:Nat):Xz (E++[(c,t)]) d=Xz E d+if c=d then 1 else 0:=by
 unfold Xz
 rw [List.countP_append]
 by_cases h:c=d <;> simp [h]
theorem Q1 {n:Nat} {E:List Ed} {c t:Nat} (h:c<n):(XA n E).set c ((Xz E c:Int)+1)=XA n (E++[(c,t)]):=by
 refine List.ext_getElem (by simp [XA]) fun i h1 h2=>?_
 rw [Gr] at h2
 have e2:(XA n (E++[(c,t)]))[i]'(by rw [Gr];exact h2)=(Xz (E++[(c,t)]) i:Int):=by simp [XA]
 rw [e2,Q0,List.getElem_set]
 by_cases e:c=i
 ·subst e;simp
 rw [if_neg e,if_neg e];simp [XA]
theorem Q2 (E:List Ed) (c t d:Nat):XC (E++[(c,t)]) d=XC E d++if t=d then [c] else []:=by
 unfold XC
 rw [List.filter_append,List.map_append]
 by_cases h:t=d <;> simp [h]
theorem NE {n:Nat} {E:List Ed} {c t:Nat} (h:t<n):(En n E).set t ((XC E t).map Int.ofNat++[(c:Int)])=En n (E++[(c,t)]):=by
 refine List.ext_getElem (by simp [En]) fun i h1 h2=>?_
 rw [FL] at h2
 have e2:(En n (E++[(c,t)]))[i]'(by rw [FL];exact h2)=(XC (E++[(c,t)]) i).map Int.ofNat:=by simp [En]
 rw [e2,Q2,List.getElem_set]
 by_cases e:t=i
 ·subst e;simp
 rw [if_neg e,if_neg e];simp [En]
theorem NF (E:List Ed) (t:Nat):(XC E t).length<=E.length:=by
 unfold XC;rw [List.length_map];exact List.length_filter_le _ _
theorem Re (E:List Ed) (c:Nat):Xz E c<=E.length:=List.countP_le_length
def XD (E:List Ed) (P:List Nat) (c:Nat):Nat:=E.countP fun e=>e.1 == c && decide (e.2∈P)
theorem Rf (E:List Ed) (P:List Nat) (c:Nat):XD E P c<=Xz E c:=List.countP_mono_left fun e _ h=>by simp only [Bool.and_eq_true] at h;exact h.1
theorem KO {E:List Ed} {P:List Nat} {q:Nat} (h:q ∉ P) (c:Nat):XD E (P++[q]) c=XD E P c+(XC E q).countP (· == c):=by
 unfold XD XC
 rw [List.countP_map,List.countP_filter]
 induction E with
 | nil=>rfl
 | cons e r ih=>
  simp only [List.countP_cons,ih]
  by_cases h1:e.1=c
  rotate_left
  ·simp [h1]
  by_cases h2:e.2=q
  rotate_left
  ·by_cases h3:e.2∈P <;> simp [h1,h2,h3];omega
  have h3:e.2 ∉ P:=by rw [h2];exact h
  simp [h1,h2,h];omega
theorem Sf (E:List Ed) (c:Nat):XD E [] c=0:=by simp [XD]
theorem EG {γ:Type} {p q:γ->Bool}:∀ {l:List γ},(∀ x∈l,p x=true->q x=true)->l.countP p=l.countP q->∀ x∈l,q x=true->p x=true
 | [],_,_,x,hx,_=>by simp at hx
 | a :: r,h,e,x,hx,hq=>by
  have hle:=List.countP_mono_left (p:=p) (q:=q) (l:=r) fun y hy=>h y (gEf _ hy)
  rw [List.countP_cons,List.countP_cons] at e
  have ha:=h a (by simp)
  rcases List.mem_cons.1 hx with rfl | hx
  ·cases hp:p x with
   | true=>rfl
   | false=>rw [hp,hq] at e;simp at e;omega
  ·refine EG (fun y hy=>h y (gEf _ hy)) ?_ x hx hq
   cases hp:p a with
   | true=>rw [hp,ha hp] at e;simp at e;exact e
   | false=>
    rw [hp] at e
    cases hqa:q a with
    | true=>rw [hqa] at e;simp at e;omega
    | false=>rw [hqa] at e;simpa using e
theorem Q3 {E:List Ed} {P:List Nat} {c:Nat} (h:XD E P c=Xz E c):∀ e∈E,e.1=c->e.2∈P:=by
 intro e he h1
 have:=EG (p:=fun e:Ed=>e.1 == c && decide (e.2∈P)) (q:=fun e:Ed=>e.1 == c) (l:=E) (fun x _ hx=>by simp only [Bool.and_eq_true] at hx;exact hx.1) h e he (by simpa using h1)
 simp only [Bool.and_eq_true,decide_eq_true_eq] at this
 exact this.2
structure Kh (E:List Ed) (n:Nat) (f:Nat->Nat) (i m:Nat) (Q:List Nat) (W:List Int):Prop where
 len:W.length=n
 wt:∀ c,c<n->W[c]?=some (((Xz E c:Nat):Int) - (XD E (Q.take i) c:Nat) - (((XC E (Q.getD i 0)).take m).countP (· == c):Nat))
 nd:Q.Nodup
 rep:∀ c∈Q,c<n/\f c=c
 zero:∀ c,c<n->f c=c->(c∈Q↔W[c]?=some 0)
 topo:∀ (j c:Nat),Q[j]?=some c->∀ e∈E,e.1=c->∃ j',j'<j/\Q[j']?=some e.2
section
variable {E : List Ed} {n : Nat} {f : Nat -> Nat} {i m : Nat} {Q : List Nat} {W : List Int}
theorem Kh.qlen (h:Kh E n f i m Q W):Q.length<=n:=by
 have:=h.nd.length_le_of_subset (l₂:=List.range n) fun q hq=>List.mem_range.2 (h.rep q hq).1
 simpa using this
theorem Kh.step (h:Kh E n f i m Q W) (hi:i<Q.length) (hE:∀ e∈E,e.1<n/\f e.1=e.1) {c:Nat} (hc:(XC E (Q.getD i 0))[m]?=some c):
  c<n/\f c=c/\∃ w:Int,W[c]?=some w/\1<=w/\w<=Xz E c/\(w ≠ 1->Kh E n f i (m+1) Q (W.set c (w - 1)))/\(w=1->Kh E n f i (m+1) (Q++[c]) (W.set c (w - 1))):=by
 have hqi:Q[i]?=some (Q.getD i 0):=by rw [gE2,gE1 hi];rfl
 have hwt:=h.wt
 generalize hq:Q.getD i 0=q at *
 have hmem:c∈XC E q:=gE9 hc
 have hce:∃ e∈E,e.2=q/\e.1=c:=by
  obtain ⟨e,he,h1⟩:=List.mem_map.1 hmem
  have:=List.mem_filter.1 he
  exact ⟨e,this.1,by simpa using this.2,h1⟩
 obtain ⟨e0,he0,he1,he2⟩:=hce
 have hcn:=hE e0 he0
 rw [he2] at hcn
 obtain ⟨hc1,hc2⟩:=hcn
 have hml:=(List.getElem?_eq_some_iff.1 hc).1
 have hcv:=(List.getElem?_eq_some_iff.1 hc).2
 have hqn:q ∉ Q.take i:=fun hin=>by
  obtain ⟨j,hj,hj2⟩:=List.mem_take_iff_getElem.1 hin
  have hji:j<i:=by have:=List.length_take_le i Q;omega
  have e1:Q[j]=Q[i]:=by rw [hj2,(List.getElem?_eq_some_iff.1 hqi).2]
  exact List.pairwise_iff_getElem.1 h.nd j i (by omega) hi hji e1
 have htk:Q.take (i+1)=Q.take i++[q]:=by rw [gE8 hi,(List.getElem?_eq_some_iff.1 hqi).2]
 have hsn:=KO (E:=E) hqn
 have hle:=fun d=>Rf E (Q.take (i+1)) d
 rw [htk] at hle
 have htm:(XC E q).take (m+1)=(XC E q).take m++[c]:=by rw [gE8 hml,hcv]
 have hcnt:∀ d,((XC E q).take (m+1)).countP (· == d)=((XC E q).take m).countP (· == d)+if c=d then 1 else 0:=fun d=>by
  rw [htm,List.countP_append]
  by_cases e:c=d <;> simp [e]
 have hsub:∀ d k,((XC E q).take k).countP (· == d)<=(XC E q).countP (· == d):=fun d k=>(List.take_sublist k _).countP_le
 have hw:=hwt c hc1
 have hb1:=hcnt c
 rw [if_pos rfl] at hb1
 have hb2:=hsub c (m+1)
 have hb3:=hle c
 rw [hsn] at hb3
 refine ⟨hc1,hc2,_,hw,by omega,by omega,fun hw1=>?_,fun hw1=>?_⟩
 ·refine ⟨by simp [h.len],fun d hd=>?_,h.nd,h.rep,fun d hd hd2=>?_,h.topo⟩
  ·rw [hq,List.getElem?_set,hcnt d]
   by_cases e:c=d
   rotate_left
   ·rw [if_neg e,if_neg e,hwt d hd,Nat.add_zero]
   subst e
   rw [if_pos rfl,if_pos (by rw [h.len];exact hc1),if_pos rfl]
   congr 1;omega
  rw [List.getElem?_set]
  by_cases e:c=d
  rotate_left
  ·rw [if_neg e];exact h.zero d hd hd2
  subst e
  rw [if_pos rfl,if_pos (by rw [h.len];exact hc1),h.zero c hd hd2,hw]
  constructor
  ·intro h0;injection h0 with h0;omega
  intro h0;injection h0 with h0;omega
 have hcq:c ∉ Q:=fun hin=>by
  have:=(h.zero c hc1 hc2).1 hin
  rw [hw] at this
  injection this with this
  omega
 have htk2:(Q++[c]).take i=Q.take i:=List.take_append_of_le_length (by omega)
 have hgq:(Q++[c]).getD i 0=q:=by rw [gE2,gEa hi,hqi];rfl
 refine ⟨by simp [h.len],fun d hd=>?_,?_,fun d hd=>?_,fun d hd hd2=>?_,fun j d hj e he h1=>?_⟩
 ·rw [htk2,hgq,List.getElem?_set,hcnt d]
  by_cases e:c=d
  rotate_left
  ·rw [if_neg e,if_neg e,hwt d hd,Nat.add_zero]
  subst e
  rw [if_pos rfl,if_pos (by rw [h.len];exact hc1),if_pos rfl]
  congr 1;omega
 ·rw [List.nodup_append]
  exact ⟨h.nd,by simp,fun a ha b hb=>by simp at hb;subst hb;intro e;subst e;exact hcq ha⟩
 ·rcases List.mem_append.1 hd with h1 | h1
  ·exact h.rep d h1
  simp at h1;subst h1;exact ⟨hc1,hc2⟩
 ·rw [List.getElem?_set,List.mem_append,List.mem_singleton]
  by_cases e:c=d
  rotate_left
  ·rw [if_neg e,<- h.zero d hd hd2]
   exact ⟨fun h1=>h1.elim id fun h2=>absurd h2.symm e,.inl⟩
  subst e
  rw [if_pos rfl,if_pos (by rw [h.len];exact hc1)]
  exact ⟨fun _=>by congr 1;omega,fun _=>.inr rfl⟩
 rcases Nat.lt_or_ge j Q.length with hl | hl
 ·rw [gEa hl] at hj
  obtain ⟨j',a1,a2⟩:=h.topo j d hj e he h1
  exact ⟨j',a1,by rw [gEa (List.getElem?_eq_some_iff.1 a2).1];exact a2⟩
 rw [gEb hl] at hj
 have hj0:j=Q.length:=by
  have:=(List.getElem?_eq_some_iff.1 hj).1
  simp at this;omega
 subst hj0
 simp at hj
 subst hj
 have hfull:XD E (Q.take i++[q]) c=Xz E c:=by rw [hsn];omega
 have hin:=Q3 hfull e he h1
 rw [<- htk] at hin
 obtain ⟨j',hj',hj2⟩:=List.mem_take_iff_getElem.1 hin
 exact ⟨j',by omega,by rw [gEa (by omega),gE1 (by omega),hj2]⟩
theorem Kh.next (h:Kh E n f i m Q W) (hi:i<Q.length) (hm:(XC E (Q.getD i 0)).length<=m):Kh E n f (i+1) 0 Q W:=by
 have hqi:Q[i]?=some (Q.getD i 0):=by rw [gE2,gE1 hi];rfl
 refine ⟨h.len,fun c hc=>?_,h.nd,h.rep,h.zero,h.topo⟩
 have hqn:Q.getD i 0 ∉ Q.take i:=fun hin=>by
  obtain ⟨j,hj,hj2⟩:=List.mem_take_iff_getElem.1 hin
  have hji:j<i:=by have:=List.length_take_le i Q;omega
  have e1:Q[j]=Q[i]:=by rw [hj2,(List.getElem?_eq_some_iff.1 hqi).2]
  exact List.pairwise_iff_getElem.1 h.nd j i (by omega) hi hji e1
 have htk:Q.take (i+1)=Q.take i++[Q.getD i 0]:=by rw [gE8 hi,(List.getElem?_eq_some_iff.1 hqi).2]
 rw [h.wt c hc,htk,KO hqn,gE7 hm]
 congr 1
 simp only [List.take_zero,List.countP_nil]
 omega
end
def Hr (E:List Ed) (n:Nat) (f:Nat->Nat) (Q:List Nat):Prop:=Q.Nodup/\(∀ c,c∈Q↔c<n/\f c=c)/\∀ (j c:Nat),Q[j]?=some c->∀ e∈E,e.1=c->∃ j',j'<j/\Q[j']?=some e.2
theorem Kh.done {E:List Ed} {n:Nat} {f:Nat->Nat} {Q:List Nat} {W:List Int} (h:Kh E n f Q.length 0 Q W) (rk:Nat->Nat) (hE:∀ e∈E,e.2<n/\f e.2=e.2/\rk e.2<rk e.1):Hr E n f Q:=by
 refine ⟨h.nd,fun c=>⟨h.rep c,?_⟩,h.topo⟩
 have key:∀ k c,rk c<=k->c<n->f c=c->c∈Q:=by
  intro k
  induction k with
  | zero=>
   intro c hk hc hf
   rw [h.zero c hc hf,h.wt c hc,List.take_length]
   have h0:Xz E c=0:=by
    unfold Xz
    rw [List.countP_eq_zero]
    intro e he h1
    have:=(hE e he).2.2
    have h2:e.1=c:=by simpa using h1
    rw [h2] at this;omega
   have h1:=Rf E Q c
   rw [List.take_zero,List.countP_nil]
   congr 1;omega
  | succ k ih=>
   intro c hk hc hf
   rw [h.zero c hc hf,h.wt c hc,List.take_length]
   have hall:∀ e∈E,e.1=c->e.2∈Q:=fun e he h1=>by
    obtain ⟨a1,a2,a3⟩:=hE e he
    rw [h1] at a3
    exact ih e.2 (by omega) a1 a2
   have h1:XD E Q c=Xz E c:=by
    unfold XD Xz
    refine List.countP_congr fun e he=>?_
    simp only [Bool.and_eq_true,decide_eq_true_eq,beq_iff_eq]
    exact ⟨fun h=>h.1,fun h=>⟨h,hall e he h⟩⟩
   rw [h1,List.take_zero,List.countP_nil]
   congr 1;omega
 exact fun ⟨h1,h2⟩=>key _ c (Nat.le_refl _) h1 h2
def XE (n:Nat) (r:List Ar):List Ar:=r.map fun a=>(a.1,a.2+(n:Int))
def XF (n:Nat) (R:List (List Ar)):List (List Ar):=R.map (XE n)
def Eo (A R:List (List Ar)):List (List Ar):=A++XF A.length R
theorem CO (n:Nat) (r:List Ar):(XE n r).length=r.length:=by simp [XE]
theorem Hs (n:Nat) (R:List (List Ar)):(XF n R).length=R.length:=by simp [XF]
theorem CF (A R:List (List Ar)):(Eo A R).length=A.length+R.length:=by simp [Eo,Hs]
theorem Q4 (R:List (List Ar)):Eo [] R=R:=by
 have:XE 0=id:=by funext r;simp [XE]
 simp [Eo,XF,this]
theorem U6 {A R:List (List Ar)} {s:Nat} (h:s<A.length):(Eo A R).getD s []=A.getD s []:=by
 rw [gE2,gE2,Eo,gEa h]
theorem U7 (A R:List (List Ar)) (s:Nat):(Eo A R).getD (A.length+s) []=XE A.length (R.getD s []):=by
 rw [gE2,gE2,Eo,gEb (by omega),Nat.add_sub_cancel_left,XF,List.getElem?_map]
 cases R[s]? <;> simp [XE]
theorem U8 (n:Nat) (r:List Ar):BR true (XE n r)=XE n (BR true r):=by
 simp [BR,XE,List.takeWhile_map,Function.comp_def]
theorem KP {A R:List (List Ar)} {s:Nat} (h:s<A.length):WP true (Eo A R) s=WP true A s:=by unfold WP;rw [U6 h]
theorem KQ {A R:List (List Ar)} (hlo:BE R=true) (s:Nat):WP true (Eo A R) (A.length+s)=(WP true R s).map (A.length + ·):=by
 unfold WP
 rw [U7,U8]
 unfold XE
 rw [List.map_map,List.map_map]
 refine List.map_congr_left fun a ha=>?_
 have:=(Iq hlo (k:=s) a ha).1
 simp only [Function.comp_apply]
 omega
theorem IA {A R:List (List Ar)} (hA:∀ x,x<A.length->∀ y∈WP true A x,y<A.length) {s u:Nat} (hs:s<A.length):Rc (WP true (Eo A R)) s u↔Rc (WP true A) s u:=by
 constructor
 rotate_left
 ·intro h
  induction h with
  | refl=>exact .refl _
  | tail h1 h2 ih=>
   refine ih.tail ?_
   rwa [KP (h1.lt hs hA)]
 intro h
 induction h with
 | refl=>exact .refl _
 | tail h1 h2 ih=>
  refine ih.tail ?_
  rwa [KP (ih.lt hs hA)] at h2
theorem IB {A R:List (List Ar)} (hlo:BE R=true) {s u:Nat}:Rc (WP true (Eo A R)) (A.length+s) u↔∃ v,u=A.length+v/\Rc (WP true R) s v:=by
 constructor
 rotate_left
 ·rintro ⟨v,rfl,h⟩
  induction h with
  | refl=>exact .refl _
  | tail h1 h2 ih=>
   refine ih.tail ?_
   rw [KQ hlo]
   exact List.mem_map.2 ⟨_,h2,rfl⟩
 intro h
 generalize hx:A.length+s=x at h
 induction h with
 | refl=>exact ⟨s,hx.symm,.refl _⟩
 | tail h1 h2 ih=>
  obtain ⟨v,e,h3⟩:=ih
  rw [e,KQ hlo] at h2
  obtain ⟨w,hw,rfl⟩:=List.mem_map.1 h2
  exact ⟨w,rfl,h3.tail hw⟩
theorem UV {A R:List (List Ar)} (hA:∀ x,x<A.length->∀ y∈WP true A x,y<A.length) {s:Nat} (hs:s<A.length):Dv (Eo A R) s↔Dv A s:=by
 constructor
 rotate_left
 ·rintro ⟨g,h1,w,h2,h3⟩
  have hg:=h1.lt hs hA
  exact ⟨g,(IA hA hs).2 h1,w,by rwa [KP hg],(IA hA (hA _ hg _ h2)).2 h3⟩
 rintro ⟨g,h1,w,h2,h3⟩
 rw [IA hA hs] at h1
 have hg:=h1.lt hs hA
 rw [KP hg] at h2
 exact ⟨g,h1,w,h2,(IA hA (hA _ hg _ h2)).1 h3⟩
theorem UW {A R:List (List Ar)} (hlo:BE R=true) {s:Nat}:Dv (Eo A R) (A.length+s)↔Dv R s:=by
 constructor
 rotate_left
 ·rintro ⟨g,h1,w,h2,h3⟩
  refine ⟨A.length+g,(IB hlo).2 ⟨g,rfl,h1⟩,A.length+w,?_,(IB hlo).2 ⟨g,rfl,h3⟩⟩
  rw [KQ hlo]
  exact List.mem_map.2 ⟨w,h2,rfl⟩
 rintro ⟨g,h1,w,h2,h3⟩
 obtain ⟨g,rfl,p1⟩:=(IB hlo).1 h1
 rw [KQ hlo] at h2
 obtain ⟨w,p2,rfl⟩:=List.mem_map.1 h2
 obtain ⟨g2,e,p3⟩:=(IB hlo).1 h3
 have:g2=g:=by omega
 subst this
 exact ⟨_,p1,w,p2,p3⟩
def CpOk (R:List (List Ar)) (D:List Int):Prop:=D.length=R.length/\∀ v,v<R.length->Least (WP true R) v (WO D (-1) v)
theorem NG {D:List Int} {s:Nat} {x:Int} (h:D[s]?=some x):WO D (-1) s=x:=by unfold WO;rw [h];rfl
theorem CpOk.both {A R:List (List Ar)} {C D:List Int} (hA:∀ x,x<A.length->∀ y∈WP true A x,y<A.length) (hlo:BE R=true) (h1:CpOk A C) (h2:CpOk R D):CpOk (Eo A R) (C++D.map (·+(A.length:Int))):=by
 refine ⟨by rw [CF,List.length_append,List.length_map,h1.1,h2.1],fun v hv=>?_⟩
 rw [CF] at hv
 rcases Nat.lt_or_ge v A.length with h | h
 ·have e:WO (C++D.map (·+(A.length:Int))) (-1) v=WO C (-1) v:=by
   unfold WO;rw [gEa (by rw [h1.1];exact h)]
  rw [e]
  obtain ⟨m,a1,a2,a3,a4⟩:=h1.2 v h
  have hm:=a2.lt h hA
  refine ⟨m,a1,(IA hA h).2 a2,(IA hA hm).2 a3,fun u b1 b2=>?_⟩
  have b1:=(IA hA h).1 b1
  exact a4 u b1 ((IA hA (b1.lt h hA)).1 b2)
 obtain ⟨s,rfl⟩:∃ s,v=A.length+s:=⟨v - A.length,by omega⟩
 have hs:s<R.length:=by omega
 obtain ⟨m,a1,a2,a3,a4⟩:=h2.2 s hs
 have hsD:s<D.length:=by rw [h2.1];exact hs
 have e:WO (C++D.map (·+(A.length:Int))) (-1) (A.length+s)=WO D (-1) s+(A.length:Int):=by
  unfold WO
  rw [gEb (by rw [h1.1];omega),h1.1,Nat.add_sub_cancel_left,List.getElem?_map,gE1 hsD];rfl
 rw [e,a1]
 refine ⟨A.length+m,by omega,(IB hlo).2 ⟨m,rfl,a2⟩,(IB hlo).2 ⟨s,rfl,a3⟩,fun u b1 b2=>?_⟩
 obtain ⟨u,rfl,p1⟩:=(IB hlo).1 b1
 obtain ⟨s2,e2,p2⟩:=(IB hlo).1 b2
 have:s2=s:=by omega
 subst this
 have:=a4 u p1 p2
 omega
theorem DvL.both {A R:List (List Ar)} {B C:List Bool} (hA:∀ x,x<A.length->∀ y∈WP true A x,y<A.length) (hlo:BE R=true) (h1:DvL A B) (h2:DvL R C):DvL (Eo A R) (B++C):=by
 refine ⟨by rw [CF,List.length_append,h1.1,h2.1],fun v hv=>?_⟩
 rw [CF] at hv
 rcases Nat.lt_or_ge v A.length with h | h
 ·rw [gE2,gEa (by rw [h1.1];exact h),<- gE2,h1.2 v h,UV hA h]
 obtain ⟨s,rfl⟩:∃ s,v=A.length+s:=⟨v - A.length,by omega⟩
 rw [gE2,gEb (by rw [h1.1];omega),h1.1,Nat.add_sub_cancel_left,<- gE2,h2.2 s (by omega),UW hlo]
theorem Gs {X:List (List Ar)} (hv:Bv X=true) {n m:Nat}:m∈WP true X n↔(0,(m:Int))∈X.getD n []:=by
 rw [<- Km true hv]
 unfold LA Hl
 simp only [List.mem_map,List.mem_filter,Bool.not_true,Bool.false_or,beq_iff_eq]
 constructor
 rotate_left
 ·intro h
  exact ⟨_,⟨h,rfl⟩,by simp⟩
 rintro ⟨a,⟨h1,h2⟩,rfl⟩
 have h3:0<=a.2:=by
  rcases Nat.lt_or_ge n X.length with h | h
  rotate_left
  ·rw [gE2,List.getElem?_eq_none h] at h1;simp at h1
  rw [gE2,gE1 h,Option.getD_some] at h1
  have:=(gE4 hv).1.2.2.2 _ (gE6 h) a h1
  omega
 have e:((0:Int),((a.2.toNat:Nat):Int))=a:=by
  rcases a with ⟨x,y⟩
  simp only at h2 h3 ⊢
  rw [h2];congr 1;omega
 rw [e];exact h1
def XG (D:List Int) (v:Nat):Nat:=(D.getD v 0).toNat
theorem BN {X:List (List Ar)} {D:List Int} (hv:Bv X=true) (h:CpOk X D) {v:Nat} (hs:v<X.length):D[v]?=some (XG D v:Int)/\XG D v<X.length/\Rc (WP true X) v (XG D v)/\Rc (WP true X) (XG D v) v/\XG D (XG D v)=XG D v:=by
 have hlo:BE X=true:=gEg (gE4 hv).1
 have hE:=Cw true hlo
 obtain ⟨m,a1,a2,a3,a4⟩:=h.2 v hs
 have hg:D[v]?=some (m:Int):=by
  have:v<D.length:=by rw [h.1];exact hs
  unfold WO at a1
  rw [gE1 this] at a1 ⊢
  rw [<- a1];rfl
 have e:XG D v=m:=by unfold XG;rw [gE2,hg];rfl
 have hm:=a2.lt hs hE
 obtain ⟨m2,b1,b2,b3,b4⟩:=h.2 m hm
 have e2:XG D m=m:=by
  have hg2:D[m]?=some (m2:Int):=by
   have:m<D.length:=by rw [h.1];exact hm
   unfold WO at b1
   rw [gE1 this] at b1 ⊢
   rw [<- b1];rfl
  have c1:=a4 m2 (a2.trans b2) (b3.trans a3)
  have c2:=b4 m (.refl _) (.refl _)
  unfold XG;rw [gE2,hg2]
  show ((m2:Int)).toNat=m
  omega
 rw [e]
 exact ⟨hg,hm,a2,a3,e2⟩
theorem U9 {X:List (List Ar)} {D:List Int} (hv:Bv X=true) (h:CpOk X D) {v w:Nat} (hs:v<X.length) (h1:Rc (WP true X) v w) (h2:Rc (WP true X) w v):XG D v=XG D w:=by
 have hlo:BE X=true:=gEg (gE4 hv).1
 have hw:=h1.lt hs (Cw true hlo)
 obtain ⟨m,a1,a2,a3,a4⟩:=h.2 v hs
 obtain ⟨k,b1,b2,b3,b4⟩:=h.2 w hw
 have c1:=a4 k (h1.trans b2) (b3.trans h2)
 have c2:=b4 m (h2.trans a2) (a3.trans h1)
 have d1:WO D (-1) v=WO D (-1) w:=by rw [a1,b1];omega
 have e1:=(BN hv h hs).1
 have e2:=(BN hv h hw).1
 rw [NG e1,NG e2] at d1
 omega
noncomputable def XH (X:List (List Ar)) (v:Nat):Nat:=(List.range X.length).countP fun u=>@decide (Rc (WP true X) v u) (Classical.propDecidable _)
theorem IC {γ:Type} {p q:γ->Bool}:∀ {l:List γ},(∀ x∈l,p x=true->q x=true)->∀ x∈l,q x=true->p x=false->l.countP p<l.countP q
 | a :: l,h,x,hx,h1,h2=>by
  have hm:l.countP p<=l.countP q:=List.countP_mono_left fun y hy=>h y (gEf _ hy)
  have ha:=h a List.mem_cons_self
  rw [List.countP_cons,List.countP_cons]
  rcases List.mem_cons.1 hx with rfl | hx
  ·rw [h1,h2];simp;omega
  ·have ih:=IC (fun y hy=>h y (gEf _ hy)) x hx h1 h2
   cases hp:p a with
   | false=>simp;split <;> omega
   | true=>rw [ha hp];simp;omega
theorem Q5 {X:List (List Ar)} {D:List Int} (hv:Bv X=true) (h:CpOk X D):∀ e∈Xy (XG D) X X.length,(e.1<X.length/\XG D e.1=e.1)/\e.2<X.length/\XG D e.2=e.2/\XH X e.2<XH X e.1:=by
 intro e he
 have hlo:BE X=true:=gEg (gE4 hv).1
 have hE:=Cw true hlo
 obtain ⟨s,hs,a,ha,h0,hne,rfl⟩:=Fb.1 he
 have hg:X.getD s []=X[s]:=by rw [gE2,gE1 hs];rfl
 rw [hg] at ha
 have hb:=(gE4 hlo).2.2.2 _ (gE6 hs) a ha
 have ht:a.2.toNat<X.length:=by omega
 have hadj:a.2.toNat∈WP true X s:=by
  rw [Gs hv,hg]
  have:((0:Int),((a.2.toNat:Nat):Int))=a:=by
   rcases a with ⟨x,y⟩
   simp only at h0 hb ⊢
   rw [h0];congr 1;omega
  rw [this];exact ha
 obtain ⟨_,p2,p3,p4,p5⟩:=BN hv h hs
 obtain ⟨_,q2,q3,q4,q5⟩:=BN hv h ht
 refine ⟨⟨p2,p5⟩,q2,q5,?_⟩
 have hst:Rc (WP true X) (XG D s) (XG D a.2.toNat):=(p4.trans (.one hadj)).trans q3
 unfold XH
 refine IC (fun u _ hu=>?_) (XG D s) (List.mem_range.2 p2) (@decide_eq_true _ (Classical.propDecidable _) (.refl _)) ?_
 ·simp only [decide_eq_true_eq] at hu ⊢
  exact hst.trans hu
 refine @decide_eq_false _ (Classical.propDecidable _) fun hc=>hne ?_
 refine U9 hv h hs (.one hadj) ?_
 exact (q3.trans hc).trans p4
theorem NH {A R:List (List Ar)} (hA:A=[]\/Bv A=true) (hR:Bv R=true) (h1:A.length+R.length<=Tq) (h2:Bw A+Bw R<=Ts):Bv (Eo A R)=true:=by
 have h:=gE4 hR
 have hA2:∀ r∈A,(∀ a∈r,0<=a.1/\a.1<=1025/\0<=a.2/\a.2<(A.length:Int))/\SortA r:=by
  rcases hA with rfl | hA
  ·intro r hr;simp at hr
  have h3:=gE4 hA
  exact fun r hr=>⟨h3.1.2.2.2 r hr,h3.2 r hr⟩
 refine gEg ⟨⟨by rw [CF];have:=h.1.1;omega,by rw [CF];exact h1,?_,fun r hr a ha=>?_⟩,fun r hr=>?_⟩
 ·have:Bw (Eo A R)=Bw A+Bw R:=by
   unfold Bw Eo XF
   rw [List.map_append,List.sum_append,List.map_map]
   have:(List.length ∘ XE A.length)=List.length:=by funext r;exact CO _ r
   rw [this]
  omega
 ·rw [CF]
  rcases List.mem_append.1 hr with h3 | h3
  ·have:=(hA2 r h3).1 a ha;omega
  obtain ⟨q,hq,rfl⟩:=List.mem_map.1 h3
  obtain ⟨b,hb,rfl⟩:=List.mem_map.1 ha
  have:=h.1.2.2.2 q hq b hb
  simp only
  omega
 rcases List.mem_append.1 hr with h3 | h3
 ·exact (hA2 r h3).2
 obtain ⟨q,hq,rfl⟩:=List.mem_map.1 h3
 have h4:=h.2 q hq
 unfold SortA XE at *
 rw [List.pairwise_map]
 refine h4.imp fun {a b} hab=>?_
 rw [C0] at hab ⊢
 simp only
 omega
theorem DlC.uniq {R:List (List Ar)} {c d:List Int} (h1:DlC R c) (h2:DlC R d):c=d:=by
 obtain ⟨B,b1,b2⟩:=h1
 obtain ⟨B',b3,b4⟩:=h2
 have e:=b1.uniq b3
 subst e
 exact b2.uniq b4
theorem Q6 {X:List (List Ar)}:∀ r∈X,r.length<=Bw X:=fun r hr=>by
 obtain ⟨j,hj,rfl⟩:=List.getElem_of_mem hr
 have h:=PH X j
 rw [gE2,gE1 hj,Option.getD_some] at h
 exact h
theorem ID {B:Nat}:∀ {X:List (List Ar)},(∀ r∈X,r.length<=B)->Bw X<=X.length*B
 | [],_=>by simp [Bw]
 | x :: r,h=>by
  have h1:=h x (by simp)
  have h2:=ID (X:=r) fun q hq=>h q (gEf _ hq)
  simp only [Bw,List.map_cons,List.sum_cons,List.length_cons,Nat.succ_mul] at h2 ⊢
  omega
theorem Rg {k m:Nat} {R:List (List Ar)} (h:OkSys k m R) (hm:m=R.length) (h1:1<=R.length) (hn:R.length<=20) (hk:k<=10):Bv R=true/\Bw R<=200/\∀ r∈R,r.length<=10:=by
 subst hm
 have hr:∀ r∈R,r.length<=10:=fun r hr=>Nat.le_trans (h.2 r hr).2.1 hk
 have ht:=ID hr
 exact ⟨gEg ⟨⟨h1,by show R.length<=16384;omega,by show Bw R<=262144;omega,fun r hr=>(h.2 r hr).2.2⟩,fun r hr=>(h.2 r hr).1⟩,by omega,hr⟩
noncomputable def XI (R:List (List Ar)) (s:Nat) (e:Int):List Int:=rL R.length ((List.range R.length).map fun u=>@decide (WA R s e u) (Classical.propDecidable _))
theorem NI {R:List (List Ar)} {s:Nat} {e:Int} {L M:List Int} (h1:U1 R s e L) (h2:U1 R s e M):L=M:=by
 obtain ⟨B,b1,rfl,b3⟩:=h1
 obtain ⟨C,c1,rfl,c3⟩:=h2
 unfold rL
 congr 1
 refine List.filter_congr fun u hu=>?_
 rw [List.mem_range] at hu
 rw [Bool.eq_iff_iff,b3 u hu,c3 u hu]
theorem Rh (R:List (List Ar)) (s:Nat) (e:Int):U1 R s e (XI R s e):=by
 refine ⟨(List.range R.length).map fun u=>@decide (WA R s e u) (Classical.propDecidable _),by simp,rfl,fun u hu=>?_⟩
 unfold Bu
 rw [gE2,List.getElem?_map,List.getElem?_range hu]
 exact @decide_eq_true_iff _ (Classical.propDecidable _)
theorem NJ {R:List (List Ar)} (_hlo:BE R=true) {s:Nat} {e:Int} (_hs:s<R.length):(XI R s e).length<=R.length/\∀ x∈XI R s e,0<=x/\x<(R.length:Int):=⟨Kx _ _,fun x hx=>UU x hx⟩
noncomputable def XJ (R:List (List Ar)) (s:Nat) (e:Int):List Ar:=(XI R s e).map fun u=>(e,u)
noncomputable def XK (R:List (List Ar)) (Ev:List Int) (s k:Nat):List Ar:=(Ev.take k).flatMap (XJ R s)
noncomputable def XL (R:List (List Ar)) (Ev:List Int) (s:Nat):List Ar:=XK R Ev s Ev.length
noncomputable def XM (R:List (List Ar)) (Ev:List Int) (k:Nat):List (List Ar):=(List.range k).map (XL R Ev)
theorem Fc (R:List (List Ar)) (Ev:List Int) (k:Nat):(XM R Ev k).length=k:=by simp [XM]
theorem KR {R:List (List Ar)} {Ev:List Int} {s k:Nat} (h:k<Ev.length):XK R Ev s (k+1)=XK R Ev s k++XJ R s Ev[k]:=by
 unfold XK
 rw [gE8 h,List.flatMap_append]
 simp
theorem NK {R:List (List Ar)} (hlo:BE R=true) {Ev:List Int} {s:Nat} (hs:s<R.length):∀ k,k<=Ev.length->(XK R Ev s k).length<=k*R.length:=by
 intro k
 induction k with
 | zero=>intro _;simp [XK]
 | succ k ih=>
  intro hk
  have h1:=ih (by omega)
  have h2:=(NJ hlo (e:=Ev[k]) hs).1
  rw [KR hk,List.length_append,XJ,List.length_map,Nat.succ_mul]
  omega
noncomputable def C9 (R:List (List Ar)):List (List Ar):=XM R (Xn R R.length) R.length
theorem Ht {R:List (List Ar)} (hv:Bv R=true) (hn:R.length<=100):(C9 R).length=R.length/\∀ r∈C9 R,r.length<=1000000/\∀ a∈r,0<=a.2/\a.2<(R.length:Int):=by
 have hlo:BE R=true:=gEg (gE4 hv).1
 have hl:(C9 R).length=R.length:=Fc _ _ _
 have hev:=Iz (R:=R) (fun r hr a ha=>by have:=(gE4 hlo).2.2.2 r hr a ha;omega) R.length (Nat.le_refl _)
 have hevl:(Xn R R.length).length<=1026:=Ix hev.1 (by simpa using hev.2.1)
 refine ⟨hl,fun r hr=>?_⟩
 obtain ⟨s,hs,rfl⟩:=List.mem_map.1 hr
 rw [List.mem_range] at hs
 have h1:=NK hlo (Ev:=Xn R R.length) hs _ (Nat.le_refl _)
 have h2:(Xn R R.length).length*R.length<=1026*100:=Nat.mul_le_mul hevl hn
 refine ⟨by unfold XL;omega,fun a ha=>?_⟩
 unfold XL XK at ha
 obtain ⟨e,_,h⟩:=List.mem_flatMap.1 ha
 obtain ⟨x,hx,rfl⟩:=List.mem_map.1 h
 exact (NJ hlo hs).2 x hx
def XN (cl:List Int) (a:Ar):Option Ar:=if a.1 ≠ 0 then some (a.1,cl.getD a.2.toNat 0) else none
def XO (cl:List Int) (row:List Ar):List Ar:=row.filterMap (XN cl)
def XP (cl:List Int) (X:List (List Ar)) (s:Nat):List Ar:=(0,cl.getD s 0) :: XO cl (X.getD s [])
def XQ (f:Nat->Nat) (cl:List Int) (X:List (List Ar)) (k c:Nat):List Ar:=((List.range k).filter fun s=>f s == c).flatMap (XP cl X)
def XR (f:Nat->Nat) (cl:List Int) (X:List (List Ar)) (k:Nat):List (List Ar):=(List.range X.length).map (XQ f cl X k)
theorem Sg (cl:List Int) (row:List Ar):(XO cl row).length<=row.length:=List.length_filterMap_le _ _
theorem NM (f:Nat->Nat) (cl:List Int) (X:List (List Ar)) (k:Nat):(XR f cl X k).length=X.length:=by simp [XR]
theorem Sh {f:Nat->Nat} {cl:List Int} {X:List (List Ar)} {k c:Nat} (h:c<X.length):(XR f cl X k)[c]?=some (XQ f cl X k c):=by simp [XR,h]
theorem Q7 (f:Nat->Nat) (cl:List Int) (X:List (List Ar)) (k c:Nat):XQ f cl X (k+1) c=XQ f cl X k c++if f k=c then XP cl X k else []:=by
 unfold XQ
 rw [List.range_succ,List.filter_append,List.flatMap_append]
 congr 1
 by_cases h:f k=c
 ·simp [h]
 simp [h]
theorem NN (f:Nat->Nat) (cl:List Int) (X:List (List Ar)) (c:Nat):∀ k,k<=X.length->(XQ f cl X k c).length<=k+Bw (X.take k):=by
 intro k
 induction k with
 | zero=>intro _;simp [XQ]
 | succ k ih=>
  intro hk
  have h1:=ih (by omega)
  have h2:=Cj (R:=X) (k:=k) hk
  have h3:=Sg cl X[k]
  have h4:X.getD k []=X[k]:=by rw [gE2,gE1 hk];rfl
  rw [Q7,List.length_append]
  split
  ·unfold XP;rw [h4,List.length_cons];omega
  simp;omega
def XS (E:List Ed) (c:Nat):List Int:=(E.filter fun e=>e.1 == c).map fun e=>(e.2:Int)
def XT (n:Nat) (E:List Ed):List (List Int):=(List.range n).map (XS E)
theorem Si {n:Nat} {E:List Ed} {c:Nat} (h:c<n):(XT n E)[c]?=some (XS E c):=by simp [XT,h]
theorem NO {E:List Ed} {c:Nat} {x:Int}:x∈XS E c↔∃ t:Nat,x=(t:Int)/\(c,t)∈E:=by
 unfold XS
 simp only [List.mem_map,List.mem_filter,beq_iff_eq]
 constructor
 rotate_left
 ·rintro ⟨t,rfl,h⟩
  exact ⟨(c,t),⟨h,rfl⟩,rfl⟩
 rintro ⟨e,⟨h1,h2⟩,rfl⟩
 exact ⟨e.2,rfl,by rw [<- h2];exact h1⟩
def XU (O:List (List Ar)) (nx:List Int):List Ar:=nx.flatMap fun t=>O.getD t.toNat []
def XV (N:List (List Int)) (O:List (List Ar)) (c:Nat):List (List Ar):=O.set c (Cq (O.getD c []++XU O (N.getD c [])))
theorem Sj (N:List (List Int)) (O:List (List Ar)) (c:Nat):(XV N O c).length=O.length:=by simp [XV]
theorem Da {α:Type} [DecidableEq α]:∀ {l m:List α},l.Nodup->(∀ x∈l,x∈m)->l.length<=m.length
 | [],_,_,_=>Nat.zero_le _
 | a :: l,m,h,hs=>by
  have h2:=List.nodup_cons.1 h
  have ha:=hs a List.mem_cons_self
  have ih:=Da (m:=m.erase a) h2.2 fun x hx=>(List.mem_erase_of_ne (fun e=>h2.1 (by rw [<- e];exact hx))).2 (hs x (gEf _ hx))
  have h3:=List.length_erase_of_mem ha
  have h4:=List.length_pos_of_mem ha
  simp only [List.length_cons]
  omega
theorem Jr {l:List Ar} (h:SortA l):l.Nodup:=h.imp fun {a b} hab=>by
 rintro rfl
 rw [Ef] at hab;cases hab
def XW (cl:List Int) (X:List (List Ar)):List Ar:=(List.range X.length).flatMap (XP cl X)
theorem Sk (cl:List Int) (X:List (List Ar)):(XW cl X).length<=X.length+Bw X:=by
 have h:XW cl X=XQ (fun _=>0) cl X X.length 0:=by
  unfold XW XQ
  rw [List.filter_eq_self.2 (fun _ _=>by simp)]
 rw [h]
 have:=NN (fun _=>0) cl X 0 X.length (Nat.le_refl _)
 rwa [List.take_length] at this
structure P3 (f:Nat->Nat) (cl:List Int) (X:List (List Ar)) (Q:List Nat) (i:Nat) (O:List (List Ar)):Prop where
 len:O.length=X.length
 sz:∀ c,(O.getD c []).length<=X.length+Bw X
 sub:∀ c,∀ x∈O.getD c [],x∈XW cl X
 raw:∀ c,c<X.length->c ∉ Q.take i->O.getD c []=XQ f cl X X.length c
 don:∀ c,c∈Q.take i->SortA (O.getD c [])/\∀ x,x∈O.getD c []↔∃ s,s<X.length/\Rc (WP true X) c s/\x∈XP cl X s
theorem Hu (f:Nat->Nat) (cl:List Int) (X:List (List Ar)) (k:Nat) {c:Nat} (h:c<X.length):(XR f cl X k).getD c []=XQ f cl X k c:=by rw [gE2,Sh h];rfl
theorem P3.start (f:Nat->Nat) (cl:List Int) (X:List (List Ar)) (Q:List Nat):P3 f cl X Q 0 (XR f cl X X.length):=by
 have out:∀ c,¬ c<X.length->(XR f cl X X.length).getD c []=[]:=fun c h=>by rw [gE2,List.getElem?_eq_none (by rw [NM];omega)];rfl
 refine ⟨NM _ _ _ _,fun c=>?_,fun c x hx=>?_,fun c hc _=>Hu _ _ _ _ hc,fun c hc=>by simp at hc⟩
 ·by_cases h:c<X.length
  rotate_left
  ·rw [out c h];simp
  rw [Hu _ _ _ _ h]
  have:=NN f cl X c X.length (Nat.le_refl _)
  rwa [List.take_length] at this
 by_cases h:c<X.length
 rotate_left
 ·rw [out c h] at hx;simp at hx
 rw [Hu _ _ _ _ h] at hx
 obtain ⟨s,h1,h2⟩:=List.mem_flatMap.1 hx
 exact List.mem_flatMap.2 ⟨s,(List.mem_filter.1 h1).1,h2⟩
theorem Js {X:List (List Ar)} {D:List Int} (hv:Bv X=true) (h:CpOk X D) {v s:Nat} (hvl:v<X.length) (hr:Rc (WP true X) v s):XG D v=XG D s\/∃ t,(XG D v,t)∈Xy (XG D) X X.length/\Rc (WP true X) t s:=by
 have hlo:BE X=true:=gEg (gE4 hv).1
 have hE:=Cw true hlo
 induction hr with
 | refl=>exact .inl rfl
 | @tail u w h1 h2 ih=>
  rcases ih with e | ⟨t,e1,e2⟩
  rotate_left
  ·exact .inr ⟨t,e1,e2.tail h2⟩
  by_cases ew:XG D u=XG D w
  ·exact .inl (e.trans ew)
  have hu:=h1.lt hvl hE
  have hw:=hE _ hu _ h2
  refine .inr ⟨XG D w,?_,(BN hv h hw).2.2.2.1⟩
  rw [Fb]
  rw [Gs hv] at h2
  exact ⟨u,hu,(0,(w:Int)),h2,rfl,by simpa using ew,by rw [e];simp⟩
theorem Ua {X:List (List Ar)} {D:List Int} (hv:Bv X=true) (h:CpOk X D) {c t:Nat} (he:(c,t)∈Xy (XG D) X X.length):Rc (WP true X) c t:=by
 have hlo:BE X=true:=gEg (gE4 hv).1
 obtain ⟨s,hs,a,ha,h0,hne,e⟩:=Fb.1 he
 cases e
 have hg:X.getD s []=X[s]:=by rw [gE2,gE1 hs];rfl
 have hb:=(gE4 hlo).2.2.2 _ (gE6 hs) a (by rw [<- hg];exact ha)
 have ht:a.2.toNat<X.length:=by omega
 have hadj:a.2.toNat∈WP true X s:=by
  rw [Gs hv]
  have:((0:Int),((a.2.toNat:Nat):Int))=a:=by
   rcases a with ⟨x,y⟩
   simp only at h0 hb ⊢
   rw [h0];congr 1;omega
  rw [this];exact ha
 exact ((BN hv h hs).2.2.2.1.trans (.one hadj)).trans (BN hv h ht).2.2.1
theorem P3.step {X:List (List Ar)} {D cl:List Int} {Q:List Nat} {O:List (List Ar)} {i:Nat} (hv:Bv X=true) (h:CpOk X D) (hQ:Hr (Xy (XG D) X X.length) X.length (XG D) Q) (hP:P3 (XG D) cl X Q i O) {c:Nat} (hi:Q[i]?=some c):P3 (XG D) cl X Q (i+1) (XV (XT X.length (Xy (XG D) X X.length)) O c):=by
 have hlo:BE X=true:=gEg (gE4 hv).1
 have hE:=Cw true hlo
 obtain ⟨hnd,hmem,htop⟩:=hQ
 have hil:i<Q.length:=(List.getElem?_eq_some_iff.1 hi).1
 have hcQ:c∈Q:=gE9 hi
 obtain ⟨hc,hfc⟩:=(hmem c).1 hcQ
 have hcn:c ∉ Q.take i:=fun hin=>by
  obtain ⟨j,hj,e⟩:=List.mem_take_iff_getElem.1 hin
  have h1:=(List.getElem?_eq_some_iff.1 hi).2
  have h2:Q[j]'(by omega)=Q[i]:=e.trans h1.symm
  have:=(List.getElem_inj hnd).1 h2
  omega
 have hsucc:Q.take (i+1)=Q.take i++[c]:=by
  rw [gE8 hil,(List.getElem?_eq_some_iff.1 hi).2]
 have hN:(XT X.length (Xy (XG D) X X.length)).getD c []=XS (Xy (XG D) X X.length) c:=by rw [gE2,Si hc];rfl
 have hself:(XV (XT X.length (Xy (XG D) X X.length)) O c).getD c []=Cq (O.getD c []++XU O (XS (Xy (XG D) X X.length) c)):=by
  unfold XV
  rw [hN,gE2,gEc (by rw [hP.len];exact hc)];rfl
 have hoth:∀ d,d ≠ c->(XV (XT X.length (Xy (XG D) X X.length)) O c).getD d []=O.getD d []:=fun d hd=>by
  unfold XV
  rw [gE2,gE5 (Ne.symm hd),<- gE2]
 have hin:∀ x,x∈O.getD c []++XU O (XS (Xy (XG D) X X.length) c)->x∈XW cl X:=fun x hx=>by
  rcases List.mem_append.1 hx with hx | hx
  ·exact hP.sub _ _ hx
  obtain ⟨t,_,ht⟩:=List.mem_flatMap.1 hx
  exact hP.sub _ _ ht
 have hmemc:∀ x,x∈O.getD c []++XU O (XS (Xy (XG D) X X.length) c)↔∃ s,s<X.length/\Rc (WP true X) c s/\x∈XP cl X s:=by
  intro x
  rw [List.mem_append,hP.raw c hc hcn]
  constructor
  rotate_left
  ·rintro ⟨s,hs,h1,h2⟩
   rcases Js hv h hc h1 with e | ⟨t,he,h3⟩
   ·refine .inl (List.mem_flatMap.2 ⟨s,List.mem_filter.2 ⟨by simpa using hs,?_⟩,h2⟩)
    rw [hfc] at e;simp [e]
   rw [hfc] at he
   refine .inr (List.mem_flatMap.2 ⟨(t:Int),NO.2 ⟨t,rfl,he⟩,?_⟩)
   simp only [Int.toNat_natCast]
   obtain ⟨j,hj,hjt⟩:=htop i c hi _ he rfl
   have ht:t∈Q.take i:=by
    rw [List.mem_take_iff_getElem]
    have h5:=List.getElem?_eq_some_iff.1 hjt
    exact ⟨j,by have:=h5.1;omega,h5.2⟩
   exact ((hP.don t ht).2 x).2 ⟨s,hs,h3,h2⟩
  rintro (hx | hx)
  ·obtain ⟨s,h1,h2⟩:=List.mem_flatMap.1 hx
   have h3:=List.mem_filter.1 h1
   have hs:s<X.length:=by simpa using h3.1
   have hfs:XG D s=c:=by simpa using h3.2
   refine ⟨s,hs,?_,h2⟩
   rw [<- hfs];exact (BN hv h hs).2.2.2.1
  obtain ⟨t,h1,h2⟩:=List.mem_flatMap.1 hx
  obtain ⟨t,rfl,he⟩:=NO.1 h1
  (try simp only [Int.toNat_natCast] at h2)
  obtain ⟨j,hj,hjt⟩:=htop i c hi _ he rfl
  have ht:t∈Q.take i:=by
   rw [List.mem_take_iff_getElem]
   have h5:=List.getElem?_eq_some_iff.1 hjt
   exact ⟨j,by have:=h5.1;omega,h5.2⟩
  obtain ⟨s,hs,h3,h4⟩:=((hP.don t ht).2 x).1 h2
  exact ⟨s,hs,(Ua hv h he).trans h3,h4⟩
 refine ⟨by rw [Sj,hP.len],fun d=>?_,fun d x hx=>?_,fun d hd hdn=>?_,fun d hd=>?_⟩
 ·by_cases e:d=c
  rotate_left
  ·rw [hoth d e];exact hP.sz d
  subst e
  rw [hself]
  refine Nat.le_trans (Da (m:=XW cl X) (Jr (B9 _)) fun x hx=>hin x ((C8 _ _).1 hx)) (Sk cl X)
 ·by_cases e:d=c
  rotate_left
  ·rw [hoth d e] at hx;exact hP.sub d x hx
  subst e
  rw [hself,C8] at hx
  exact hin x hx
 ·rw [hsucc] at hdn
  have e:d ≠ c:=fun e=>hdn (by rw [e];simp)
  rw [hoth d e]
  exact hP.raw d hd fun h=>hdn (List.mem_append_left _ h)
 rw [hsucc] at hd
 rcases List.mem_append.1 hd with h1 | h1
 ·have e:d ≠ c:=fun e=>hcn (by rw [<- e];exact h1)
  rw [hoth d e]
  exact hP.don d h1
 have e:d=c:=by simpa using h1
 subst e
 rw [hself]
 exact ⟨B9 _,fun x=>by rw [C8];exact hmemc x⟩
theorem P3.done {X:List (List Ar)} {D cl:List Int} {Q:List Nat} {O:List (List Ar)} (hv:Bv X=true) (h:CpOk X D) (hQ:Hr (Xy (XG D) X X.length) X.length (XG D) Q) (hP:P3 (XG D) cl X Q Q.length O) {s:Nat} (hs:s<X.length):O.getD (XG D s) []=Xi (Tt X) cl s:=by
 obtain ⟨_,p2,p3,p4,p5⟩:=BN hv h hs
 have hin:XG D s∈Q.take Q.length:=by rw [List.take_length];exact (hQ.2.1 _).2 ⟨p2,p5⟩
 obtain ⟨h1,h2⟩:=hP.don _ hin
 refine Cg h1 (B9 _) fun x=>?_
 have hE:=Cw true (gEg (gE4 hv).1:BE X=true)
 rw [h2]
 refine Iff.trans ?_ (DG (S:=Tt X) (c:=cl) (s:=s) (x:=x)).symm
 constructor
 rotate_left
 ·rintro ⟨a,ha,rfl⟩
  rcases (Hp hv hs).1 ha with ⟨h0,u,e,h3⟩ | ⟨h0,t,h3,h4⟩
  ·have hu:=h3.lt hs hE
   refine ⟨u,hu,p4.trans h3,List.mem_cons.2 (.inl ?_)⟩
   rw [h0,e];simp
  refine ⟨t,h3.lt hs hE,p4.trans h3,gEf _ (List.mem_filterMap.2 ⟨a,h4,?_⟩)⟩
  unfold XN
  rw [if_pos h0]
 rintro ⟨u,hu,h3,h4⟩
 have hsu:=p3.trans h3
 rcases List.mem_cons.1 h4 with rfl | h4
 ·exact ⟨(0,(u:Int)),(Hp hv hs).2 (.inl ⟨rfl,u,rfl,hsu⟩),by simp⟩
 obtain ⟨a,ha,e⟩:=List.mem_filterMap.1 h4
 unfold XN at e
 split at e
 rotate_left
 ·cases e
 rename_i h0
 cases e
 exact ⟨a,(Hp hv hs).2 (.inr ⟨h0,u,hsu,ha⟩),rfl⟩
end Go.Proofs.YtjijjfkalheokaaGreatDoor
