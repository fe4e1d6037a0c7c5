/- Lemmas. -/
import Derived.Test.YtjijjfkalheokaaDoorG45
import Derived.Test.YtjijjfkalheokaaDoorG39
import Derived.Test.YtjijjfkalheokaaDoorZk
import Derived.Test.YtjijjfkalheokaaDoorMF
import Derived.Test.YtjijjfkalheokaaDoorG11
import Derived.Test.YtjijjfkalheokaaDoorMD
import Derived.Test.YtjijjfkalheokaaDoorMlz
namespace Go.Proofs.YtjijjfkalheokaaDoor
set_option linter.unusedVariables false
set_option linter.unusedSimpArgs false
open Go.RowKit

def YQ (m c:Int):Int:=if m<c+1 then c+1 else m
def YR (m:Int) (l:List Int):Int:=l.foldl YQ m
def WQ:List Int->Int->Bool
 | [],_=>true
 | c :: r,m=>(!decide (c<0) && !decide (c > m)) && WQ r (YQ m c)
def WR (C:List Int) (n:Nat):Bool:=WQ C 0 && decide (C.length=n)
theorem WM (m:Int) (l:List Int) (c:Int):YR m (l++[c])=YQ (YR m l) c:=by unfold YR;rw [List.foldl_append];rfl
theorem Ys (l:List Int):∀ m:Int,m<=YR m l/\∀ c∈l,c+1<=YR m l:=by
 induction l with
 | nil=>intro m;exact ⟨Int.le_refl _,by simp⟩
 | cons a r ih=>
  intro m
  obtain ⟨h1,h2⟩:=ih (YQ m a)
  have e:YR m (a :: r)=YR (YQ m a) r:=rfl
  have h3:m<=YQ m a/\a+1<=YQ m a:=by unfold YQ;split <;> omega
  rw [e]
  refine ⟨by omega,fun c hc=>?_⟩
  rcases List.mem_cons.1 hc with rfl | hc
  ·omega
  exact h2 c hc
theorem Yt {n:Nat} (l:List Int):∀ m:Int,WQ l m=true->0<=m->YR m l<=m+l.length/\(∀ c∈l,0<=c):=by
 induction l with
 | nil=>intro m _ _;exact ⟨by simp [YR],by simp⟩
 | cons a r ih=>
  intro m h hm
  simp only [WQ,Bool.and_eq_true,Bool.not_eq_true',decide_eq_false_iff_not] at h
  obtain ⟨⟨h1,h2⟩,h3⟩:=h
  have h4:0<=YQ m a/\YQ m a<=m+1:=by unfold YQ;split <;> omega
  obtain ⟨q1,q2⟩:=ih (YQ m a) h3 h4.1
  have e:YR m (a :: r)=YR (YQ m a) r:=rfl
  rw [e]
  refine ⟨by simp only [List.length_cons];omega,fun c hc=>?_⟩
  rcases List.mem_cons.1 hc with rfl | hc
  ·omega
  exact q2 c hc
def X5 (x:Int) (l:List Int):Int:=l.foldl (fun a b=>if a<b then b else a) x
theorem Xm (x:Int) (l:List Int) (y:Int):X5 x (l++[y])=if X5 x l<y then y else X5 x l:=by unfold X5;rw [List.foldl_append];rfl
theorem Yb (l:List Int):∀ x:Int,YR (x+1) l=X5 x l+1:=by
 induction l with
 | nil=>intro x;rfl
 | cons a r ih=>
  intro x
  have e:YQ (x+1) a=(if x<a then a else x)+1:=by unfold YQ;split <;> split <;> omega
  show YR (YQ (x+1) a) r=X5 (if x<a then a else x) r+1
  rw [e,ih]
theorem XI {x:Int} (l:List Int) (h:0<=x):YR 0 (x :: l)=X5 x (x :: l)+1:=by
 have e1:YQ 0 x=x+1:=by unfold YQ;rw [if_pos (by omega)]
 have e2:X5 x (x :: l)=X5 x l:=by show X5 (if x<x then x else x) l=_;simp
 rw [e2,<- Yb,<- e1];rfl
def YS (C:List Int) (v:Nat):Nat:=(C.getD v 0).toNat
def YT (C:List Int):Nat:=(YR 0 C).toNat
theorem Wy {C:List Int} {n:Nat} (h:WR C n=true):C.length=n/\YT C<=n/\(∀ v,v<n->YS C v<YT C/\C[v]?=some ((YS C v:Nat):Int))/\YR 0 C=(YT C:Int):=by
 simp only [WR,Bool.and_eq_true,decide_eq_true_eq] at h
 obtain ⟨h1,h2⟩:=h
 obtain ⟨q1,q2⟩:=Yt (n:=n) C 0 h1 (Int.le_refl _)
 obtain ⟨p1,p2⟩:=Ys C 0
 refine ⟨h2,by unfold YT;omega,fun v hv=>?_,by unfold YT;omega⟩
 have hl:v<C.length:=by omega
 have a1:=q2 _ (gE6 hl)
 have a2:=p2 _ (gE6 hl)
 unfold YS YT
 rw [gE2,gE1 hl,Option.getD_some]
 refine ⟨by omega,by congr 1;omega⟩
def W4 (f:Nat->Nat) (c:Nat) (a:Ar):Option Ar:=if a.1 ≠ 0\/f a.2.toNat ≠ c then some (a.1,(f a.2.toNat:Int)) else none
def Wn (x:Option Ar) (c:Nat) (o:List (List Ar)):List (List Ar):=match x with | some b=>o.set c (o.getD c []++[b]) | none=>o
def Wp (f:Nat->Nat) (c:Nat) (o:List (List Ar)) (row:List Ar):List (List Ar):=row.foldl (fun o a=>Wn (W4 f c a) c o) o
def Wj (f:Nat->Nat) (m:Nat) (R:List (List Ar)):Nat->List (List Ar)
 | 0=>List.replicate m []
 | k+1=>Wp f (f k) (Wj f m R k) (R.getD k [])
def W5 (b:Bool) (c:Nat):Option Ar:=if b then some (0,(c:Int)) else none
def YU (f:Nat->Nat) (m:Nat) (B:List Bool) (k:Nat):List Bool:=(List.range m).map fun c=>(List.range k).any fun s=>decide (f s=c) && B.getD s false
def Wt (L:List Bool) (o:List (List Ar)):Nat->List (List Ar)
 | 0=>o
 | c+1=>Wn (W5 (L.getD c false) c) c (Wt L o c)
def qR (R:List (List Ar)) (C:List Int) (B:List Bool):List (List Ar):=Wt (YU (YS C) (YT C) B R.length) (Wj (YS C) (YT C) R R.length) (YT C)
theorem WD (x:Option Ar) (c:Nat) (o:List (List Ar)):(Wn x c o).length=o.length:=by cases x <;> simp [Wn]
theorem WE (f:Nat->Nat) (c:Nat) (row:List Ar):∀ o,(Wp f c o row).length=o.length:=by
 induction row with
 | nil=>intro o;rfl
 | cons a r ih=>intro o;show (Wp f c (Wn (W4 f c a) c o) r).length=_;rw [ih,WD]
theorem Wq (f:Nat->Nat) (m:Nat) (R:List (List Ar)) (k:Nat):(Wj f m R k).length=m:=by
 induction k with
 | zero=>simp [Wj]
 | succ k ih=>rw [Wj,WE,ih]
theorem WF (L:List Bool) (o:List (List Ar)) (k:Nat):(Wt L o k).length=o.length:=by
 induction k with
 | zero=>rfl
 | succ k ih=>rw [Wt,WD,ih]
theorem WJ (f:Nat->Nat) (c:Nat) (o:List (List Ar)) (row:List Ar) (a:Ar):Wp f c o (row++[a])=Wn (W4 f c a) c (Wp f c o row):=by unfold Wp;rw [List.foldl_append];rfl
theorem WY {x:Option Ar} {c d:Nat} {o:List (List Ar)} {a:Ar} (h:c<o.length):a∈(Wn x c o).getD d []↔a∈o.getD d []\/(d=c/\x=some a):=by
 cases x with
 | none=>simp [Wn]
 | some b=>
  unfold Wn
  simp only
  rw [gE2]
  by_cases e:c=d
  rotate_left
  ·rw [gE5 e,<- gE2]
   simp [Ne.symm e]
  subst e
  rw [gEc h,Option.getD_some,List.mem_append]
  simp [eq_comm]
theorem Xn {f:Nat->Nat} {c d:Nat} {a:Ar}:∀ (row:List Ar) (o:List (List Ar)),c<o.length->(a∈(Wp f c o row).getD d []↔a∈o.getD d []\/(d=c/\∃ b∈row,W4 f c b=some a)):=by
 intro row
 induction row with
 | nil=>intro o _;simp [Wp]
 | cons b r ih=>
  intro o h
  show a∈(Wp f c (Wn (W4 f c b) c o) r).getD d []↔_
  rw [ih _ (by rw [WD];exact h),WY h]
  simp only [List.mem_cons,exists_eq_or_imp]
  rw [or_assoc,<- and_or_left]
def QA (R:List (List Ar)) (f:Nat->Nat) (k d:Nat) (a:Ar):Prop:=∃ s,s<k/\f s=d/\∃ b∈R.getD s [],W4 f d b=some a
def QL (f:Nat->Nat) (B:List Bool) (k d:Nat) (a:Ar):Prop:=a=(0,(d:Int))/\∃ s,s<k/\f s=d/\B.getD s false=true
theorem QA.succ {R:List (List Ar)} {f:Nat->Nat} {k d:Nat} {a:Ar}:QA R f (k+1) d a↔QA R f k d a\/(d=f k/\∃ b∈R.getD k [],W4 f (f k) b=some a):=by
 constructor
 rotate_left
 ·rintro (⟨s,h1,h2,h3⟩ | ⟨rfl,h3⟩)
  ·exact ⟨s,by omega,h2,h3⟩
  exact ⟨k,by omega,rfl,h3⟩
 rintro ⟨s,h1,h2,h3⟩
 by_cases e:s=k
 ·subst e;subst h2;exact .inr ⟨rfl,h3⟩
 exact .inl ⟨s,by omega,h2,h3⟩
theorem QL.succ {f:Nat->Nat} {B:List Bool} {k d:Nat} {a:Ar}:QL f B (k+1) d a↔QL f B k d a\/(d=f k/\W5 (B.getD k false) (f k)=some a):=by
 unfold QL W5
 constructor
 ·rintro ⟨h0,s,h1,h2,h3⟩
  by_cases e:s=k
  ·subst e;subst h2;exact .inr ⟨rfl,by rw [if_pos h3,h0]⟩
  exact .inl ⟨h0,s,by omega,h2,h3⟩
 rintro (⟨h0,s,h1,h2,h3⟩ | ⟨rfl,h3⟩)
 ·exact ⟨h0,s,by omega,h2,h3⟩
 split at h3
 rotate_left
 ·cases h3
 rename_i hb
 injection h3 with h3
 exact ⟨h3.symm,k,by omega,rfl,hb⟩
theorem XJ {m d:Nat}:(List.replicate m ([]:List Ar)).getD d []=[]:=by
 rw [gE2,List.getElem?_replicate];split <;> rfl
theorem Xo {f:Nat->Nat} {m d:Nat} {R:List (List Ar)} {a:Ar} {n:Nat} (hf:∀ v,v<n->f v<m):∀ k,k<=n->(a∈(Wj f m R k).getD d []↔QA R f k d a):=by
 intro k
 induction k with
 | zero=>intro _;rw [Wj,XJ];simp [QA]
 | succ k ih=>
  intro hk
  rw [Wj,Xn _ _ (by rw [Wq];exact hf k hk),ih (by omega),QA.succ]
theorem Xp {L:List Bool} {d:Nat} {o:List (List Ar)} {a:Ar}:∀ k,k<=o.length->(a∈(Wt L o k).getD d []↔a∈o.getD d []\/(d<k/\L.getD d false=true/\a=(0,(d:Int)))):=by
 intro k
 induction k with
 | zero=>intro _;simp [Wt]
 | succ k ih=>
  intro hk
  rw [Wt,WY (by rw [WF];exact hk),ih (by omega)]
  unfold W5
  constructor
  rotate_left
  ·rintro (h | ⟨h1,h2,h3⟩)
   ·exact .inl (.inl h)
   by_cases e:d=k
   ·subst e;exact .inr ⟨rfl,by rw [if_pos h2,h3]⟩
   exact .inl (.inr ⟨by omega,h2,h3⟩)
  rintro ((h | ⟨h1,h2,h3⟩) | ⟨rfl,h2⟩)
  ·exact .inl h
  ·exact .inr ⟨by omega,h2,h3⟩
  split at h2
  ·rename_i hb;injection h2 with h2;exact .inr ⟨by omega,hb,h2.symm⟩
  cases h2
theorem Ww (f:Nat->Nat) (m:Nat) (B:List Bool) (k:Nat):(YU f m B k).length=m:=by simp [YU]
theorem X6 {f:Nat->Nat} {m:Nat} {B:List Bool} {k d:Nat} (hd:d<m):(YU f m B k).getD d false=(List.range k).any fun s=>decide (f s=d) && B.getD s false:=by
 simp [YU,gE2,hd]
theorem Yc {f:Nat->Nat} {m:Nat} {B:List Bool} {k:Nat} (hf:f k<m):(YU f m B k).set (f k) ((YU f m B k).getD (f k) false || B.getD k false)=YU f m B (k+1):=by
 have hl:=Ww f m B k
 refine List.ext_getElem (by simp [YU]) fun i h1 h2=>?_
 rw [Ww] at h2
 have e2:(YU f m B (k+1))[i]'(by rw [Ww];exact h2)=((List.range (k+1)).any fun s=>decide (f s=i) && B.getD s false):=by simp [YU]
 rw [e2,List.range_succ,List.any_append]
 by_cases e:f k=i
 ·subst e
  rw [List.getElem_set_self,X6 hf]
  simp
 rw [List.getElem_set_ne e]
 have e3:(YU f m B k)[i]'(by rw [Ww];exact h2)=((List.range k).any fun s=>decide (f s=i) && B.getD s false):=by simp [YU]
 rw [e3]
 simp [e]
theorem Xb {R:List (List Ar)} {C:List Int} {B:List Bool} (h:WR C R.length=true) {d:Nat} {a:Ar}:a∈(qR R C B).getD d []↔QA R (YS C) R.length d a\/QL (YS C) B R.length d a:=by
 obtain ⟨h1,h2,h3,_⟩:=Wy h
 have hf:∀ v,v<R.length->YS C v<YT C:=fun v hv=>(h3 v hv).1
 unfold qR
 rw [Xp _ (by rw [Wq];exact Nat.le_refl _),Xo hf _ (Nat.le_refl _)]
 refine or_congr Iff.rfl ?_
 unfold QL
 constructor
 ·rintro ⟨g1,g2,g3⟩
  rw [X6 g1,List.any_eq_true] at g2
  obtain ⟨s,hs,hb⟩:=g2
  simp only [Bool.and_eq_true,decide_eq_true_eq] at hb
  exact ⟨g3,s,List.mem_range.1 hs,hb.1,hb.2⟩
 rintro ⟨g3,s,hs,rfl,hb⟩
 refine ⟨hf s hs,?_,g3⟩
 rw [X6 (hf s hs),List.any_eq_true]
 exact ⟨s,List.mem_range.2 hs,by simp only [Bool.and_eq_true,decide_eq_true_eq];exact ⟨trivial,hb⟩⟩
theorem WZ (x:Option Ar) (c:Nat) (o:List (List Ar)):BP (Wn x c o)<=BP o+1:=by
 cases x with
 | none=>simp [Wn]
 | some b=>
  unfold Wn
  by_cases h:c<o.length
  ·simp only;rw [XG o h];exact Nat.le_refl _
  simp only;rw [List.set_eq_of_length_le (by omega)];omega
theorem WG (f:Nat->Nat) (c:Nat) (row:List Ar):∀ o,BP (Wp f c o row)<=BP o+row.length:=by
 induction row with
 | nil=>intro o;exact Nat.le_refl _
 | cons a r ih=>
  intro o
  have h1:=ih (Wn (W4 f c a) c o)
  have h2:=WZ (W4 f c a) c o
  show BP (Wp f c (Wn (W4 f c a) c o) r)<=_
  simp only [List.length_cons];omega
theorem WH (f:Nat->Nat) (m:Nat) (R:List (List Ar)):∀ k,k<=R.length->BP (Wj f m R k)<=BP (R.take k):=by
 intro k
 induction k with
 | zero=>intro _;rw [Wj,XH];omega
 | succ k ih=>
  intro hk
  have h1:=ih (by omega)
  have h2:=Cr (R:=R) (k:=k) hk
  have h3:=WG f (f k) (R.getD k []) (Wj f m R k)
  have h4:R.getD k []=R[k]:=by rw [gE2,gE1 hk];rfl
  rw [Wj]
  rw [h4] at h3 ⊢
  omega
theorem X0 (L:List Bool) (o:List (List Ar)):∀ k,BP (Wt L o k)<=BP o+k:=by
 intro k
 induction k with
 | zero=>exact Nat.le_refl _
 | succ k ih=>
  have:=WZ (W5 (L.getD k false) k) k (Wt L o k)
  rw [Wt];omega
theorem QA.bd {R:List (List Ar)} {f:Nat->Nat} {m k d:Nat} {a:Ar} (hlo:Br R=true) (hk:k<=R.length) (hf:∀ v,v<R.length->f v<m) (h:QA R f k d a):0<=a.1/\a.1<=1025/\0<=a.2/\a.2<(m:Int):=by
 obtain ⟨s,h1,h2,b,hb,h3⟩:=h
 have hs:s<R.length:=by omega
 rw [gE2,gE1 hs] at hb
 have hbd:=(gE4 hlo).2.2.2 _ (gE6 hs) b hb
 unfold W4 at h3
 split at h3
 rotate_left
 ·cases h3
 injection h3 with h3
 subst h3
 have:=hf b.2.toNat (by omega)
 simp only;omega
theorem XK {R:List (List Ar)} {C:List Int} {B:List Bool} (hlo:Br R=true) (h:WR C R.length=true):(qR R C B).length=YT C/\(∀ r∈qR R C B,∀ a∈r,0<=a.1/\a.1<=1025/\0<=a.2/\a.2<((qR R C B).length:Int))/\BP (qR R C B)<=BP R+R.length:=by
 obtain ⟨h1,h2,h3,_⟩:=Wy h
 have hf:∀ v,v<R.length->YS C v<YT C:=fun v hv=>(h3 v hv).1
 have hl:(qR R C B).length=YT C:=by unfold qR;rw [WF,Wq]
 refine ⟨hl,fun r hr a ha=>?_,?_⟩
 rotate_left
 ·have a1:=X0 (YU (YS C) (YT C) B R.length) (Wj (YS C) (YT C) R R.length) (YT C)
  have a2:=WH (YS C) (YT C) R R.length (Nat.le_refl _)
  rw [List.take_length] at a2
  unfold qR
  omega
 obtain ⟨d,hd,rfl⟩:=List.getElem_of_mem hr
 have hd2:d<YT C:=by omega
 have ha2:a∈(qR R C B).getD d []:=by rw [gE2,gE1 hd];exact ha
 rw [hl]
 rcases (Xb h).1 ha2 with q | ⟨q,_⟩
 ·exact q.bd hlo (Nat.le_refl _) hf
 subst q;simp only;omega
def RowN (R:List (List Ar)) (num:List Int) (s:Int) (r:List Ar):Prop:=
 r=CI ((CI (R.getD s.toNat [])).map fun a=>(a.1,num.getD a.2.toNat 0))/\∀ a∈R.getD s.toNat [],∃ x,num[a.2.toNat]?=some x/\0<=x
theorem RowN.keep {R:List (List Ar)} {num num2:List Int} {s:Int} {r:List Ar} (h:RowN R num s r) (hk:∀ (t:Nat) (x:Int),num[t]?=some x->0<=x->num2[t]?=some x):RowN R num2 s r:=by
 obtain ⟨h1,h2⟩:=h
 refine ⟨?_,fun a ha=>?_⟩
 rotate_left
 ·obtain ⟨x,hx,hp⟩:=h2 a ha
  exact ⟨x,hk _ x hx hp,hp⟩
 rw [h1]
 congr 1
 refine List.map_congr_left fun a ha=>?_
 obtain ⟨x,hx,hp⟩:=h2 a ((C8 _ a).1 ha)
 rw [gE2,gE2,hx,hk _ x hx hp]
theorem Xq {R:List (List Ar)} (hb:∀ r∈R,∀ a∈r,0<=a.2/\a.2<(R.length:Int)):∀ (f i:Nat) (num old:List Int) (out:List (List Ar)),NumOk R.length num old->NumInj num old->NumSur num old->i=out.length->i<=old.length->R.length<=f+i->
  (∀ (j:Nat) (s:Int) (r:List Ar),old[j]?=some s->out[j]?=some r->RowN R num s r)->
  ∃ num',NumOk R.length num' (Hs R f i num old out).2/\NumInj num' (Hs R f i num old out).2/\NumSur num' (Hs R f i num old out).2/\(Hs R f i num old out).1.length=(Hs R f i num old out).2.length/\(∀ (j:Nat) (s:Int),old[j]?=some s->(Hs R f i num old out).2[j]?=some s)/\
   ∀ (j:Nat) (s:Int) (r:List Ar),(Hs R f i num old out).2[j]?=some s->(Hs R f i num old out).1[j]?=some r->RowN R num' s r:=by
 intro f
 induction f with
 | zero=>
  intro i num old out hN hI hS hi ho hf hR
  have hle:=hN.le
  exact ⟨num,hN,hI,hS,by simp only [Hs];omega,fun _ _ h=>h,hR⟩
 | succ f ih=>
  intro i num old out hN hI hS hi ho hf hR
  have hle:=hN.le
  unfold Hs
  split
  ·rename_i hs
   have:=List.getElem?_eq_none_iff.1 hs
   exact ⟨num,hN,hI,hS,by simp only;omega,fun _ _ h=>h,hR⟩
  rename_i s hs
  have hs0:=hN.st s (gE9 hs)
  have hsl:s.toNat<R.length:=by omega
  have hil:=(List.getElem?_eq_some_iff.1 hs).1
  have hg:R.getD s.toNat []=R[s.toNat]:=by rw [gE2,gE1 hsl];rfl
  have hrm:=gE6 hsl
  have hq:∀ a∈CI (R.getD s.toNat []),0<=a.2/\a.2<(num.length:Int):=fun a ha=>by
   rw [hg] at ha
   have:=hb _ hrm a ((C8 _ a).1 ha);rw [hN.len];omega
  have hN2:=NumOk.go (CI (R.getD s.toNat [])) [] hN (by rw [<- hN.len];exact hq)
  have hn2:=Ke (CI (R.getD s.toNat [])) num old []
  rw [hn2] at hN2 ⊢
  simp only at hN2 ⊢
  have hI2:=Je _ hq hI
  have hS2:=Xa _ hq hS
  obtain ⟨hm1,hm2⟩:=NC (old:=old) _ hq
  have hgr:=WV (CI (R.getD s.toNat [])) num old
  have hkp:∀ (t:Nat) (x:Int),num[t]?=some x->0<=x->(Ds (CI (R.getD s.toNat [])) num old).1[t]?=some x:=fun t x h1 h2=>LA _ (fun a ha=>(hq a ha).1) h1 h2
  have hold:∀ (j:Nat) (x:Int),old[j]?=some x->(Ds (CI (R.getD s.toNat [])) num old).2.1[j]?=some x:=fun j x h=>WL _ h
  have hnew:RowN R (Ds (CI (R.getD s.toNat [])) num old).1 s ((Ds (CI (R.getD s.toNat [])) num old).2.2.foldl (fun acc a=>GR a acc) []):=by
   refine ⟨?_,fun a ha=>hm2 a ((C8 _ a).2 ha)⟩
   rw [hm1];rfl
  obtain ⟨num',k1,k2,k3,k4,k5,k6⟩:=ih (i+1) _ _ (out++[(Ds (CI (R.getD s.toNat [])) num old).2.2.foldl (fun acc a=>GR a acc) []]) hN2 hI2 hS2 (by simp;omega) (by omega) (by omega) (fun j t r hj hr=>by
   rcases Nat.lt_or_ge j out.length with hlt | hge
   ·rw [gEa hlt] at hr
    have hj2:old[j]?=some t:=by
     have h3:=hold j old[j] (gE1 (by omega))
     rw [hj] at h3
     rw [gE1 (by omega),<- h3]
    exact (hR j t r hj2 hr).keep hkp
   ·have hje:j=i:=by
     have:=(List.getElem?_eq_some_iff.1 hr).1
     simp at this;omega
    subst hje
    rw [gEb hge,hi,Nat.sub_self] at hr
    simp at hr
    rw [hold j s hs] at hj
    injection hj with hj
    subst hj;subst hr
    exact hnew)
  exact ⟨num',k1,k2,k3,k4,fun j x h=>k5 j x (hold j x h),k6⟩
theorem Xi {R:List (List Ar)} (h1:1<=R.length) (hb:∀ r∈R,∀ a∈r,0<=a.2/\a.2<(R.length:Int)):∃ num,NumOk R.length num (CG R).2/\NumInj num (CG R).2/\NumSur num (CG R).2/\(CG R).1.length=(CG R).2.length/\(CG R).2[0]?=some 0/\∀ (j:Nat) (s:Int) (r:List Ar),(CG R).2[j]?=some s->(CG R).1[j]?=some r->RowN R num s r:=by
 obtain ⟨num,k1,k2,k3,k4,k5,k6⟩:=Xq hb R.length 0 _ _ [] (NumOk.start h1) (NumInj.start h1) (NumSur.start h1) rfl (by simp) (by omega) (fun j s r _ h=>by simp at h)
 exact ⟨num,k1,k2,k3,k4,k5 0 0 rfl,k6⟩
def MtK {α:Type} (A:List (List Ar)) (kA:Nat->α) (B:List (List Ar)) (kB:Nat->α):Prop:=
 ∀ s t,s<A.length->t<B.length->kA s=kB t->(Dv A s->Dv B t)/\∀ a∈(Gv A).getD s [],∃ b∈(Gv B).getD t [],b.1=a.1/\kB b.2.toNat=kA a.2.toNat
theorem P5 {R:List (List Ar)} (hv:Bg R=true) (hn:R.length<=100) {s:Nat} (hs:s<R.length) {a:Ar} (h:a∈(Gv R).getD s []):0<=a.2/\a.2.toNat<R.length:=by
 have hb:=LY hv hn
 have hm:(Gv R).getD s []∈Gv R:=by
  rw [gE2,gE1 (by omega),Option.getD_some]
  exact gE6 _
 have:=(hb.2 _ hm).2 a h
 omega
theorem P6 {α:Type} {R:List (List Ar)} {k:Nat->α} (hv:Bg R=true) (hn:R.length<=100) (hk:MtK R k R k) {c:List Int} (ih:∀ s t,s<R.length->t<R.length->k s=k t->c.getD s 0=c.getD t 0) {s t:Nat} (hs:s<R.length) (ht:t<R.length) (h:k s=k t):OS c ((Gv R).getD s []) ((Gv R).getD t [])=true:=by
 unfold OS
 refine List.all_eq_true.2 fun a ha=>?_
 obtain ⟨b,hb,e1,e2⟩:=(hk s t hs ht h).2 a ha
 unfold S8
 refine List.any_eq_true.2 ⟨b,hb,?_⟩
 rw [e1,ih _ _ (P5 hv hn ht hb).2 (P5 hv hn hs ha).2 e2]
 simp
theorem MtK.le {α:Type} {R:List (List Ar)} {k:Nat->α} (hv:Bg R=true) (hn:R.length<=100) (hk:MtK R k R k) {c:List Int} (hc:DlC R c) {s t:Nat} (hs:s<R.length) (ht:t<R.length) (h:k s=k t):c.getD s 0=c.getD t 0:=by
 obtain ⟨B,hB,i,hi,-⟩:=hc
 have hb:=LY hv hn
 subst hi
 induction i generalizing s t with
 | zero=>
  show (Vb B R.length).getD s 0=(Vb B R.length).getD t 0
  rw [Du hs,Du ht]
  have e:B.getD s false=B.getD t false:=by
   rw [Bool.eq_iff_iff,hB.2 s hs,hB.2 t ht]
   exact ⟨(hk s t hs ht h).1,(hk t s ht hs h.symm).1⟩
  unfold Va
  rw [e]
 | succ i ih=>
  have ih2:=fun s t hs ht h=>ih (s:=s) (t:=t) hs ht h
  have e:=(Ch (UY (Gv R) (V0 (Gv R) (Vb B R.length) i)) (Gv R).length).eq s t (by omega) (by omega)
  refine e.2 ?_
  unfold UY
  rw [ih hs ht h,LV.2 ⟨P6 hv hn hk ih2 hs ht h,P6 hv hn hk ih2 ht hs h.symm⟩]
theorem DlC.key {R:List (List Ar)} (hv:Bg R=true) (hn:R.length<=100) {c:List Int} (hc:DlC R c):MtK R (fun s=>c.getD s 0) R (fun s=>c.getD s 0):=by
 obtain ⟨B,hB,i,hi,hf⟩:=hc
 have hb:=LY hv hn
 intro s t hs ht h
 simp only at h ⊢
 have e:=(Ch (UY (Gv R) c) (Gv R).length).eq s t (by omega) (by omega)
 have e0:(UW (UY (Gv R) c) (Gv R).length).1=c:=hf
 rw [e0] at e
 have e2:=congrArg Prod.snd (e.1 h)
 obtain ⟨c1,-⟩:=LV.1 e2
 refine ⟨fun hd=>?_,fun a ha=>?_⟩
 rotate_left
 ·obtain ⟨b,hb2,hq⟩:=List.any_eq_true.1 (List.all_eq_true.1 c1 a ha)
  simp only [Bool.and_eq_true,beq_iff_eq] at hq
  exact ⟨b,hb2,hq.1,hq.2⟩
 have hdv:∀ j,(V0 (Gv R) (Vb B R.length) j).getD s 0=(V0 (Gv R) (Vb B R.length) j).getD t 0->(Vb B R.length).getD s 0=(Vb B R.length).getD t 0:=by
  intro j
  induction j with
  | zero=>exact id
  | succ j ih=>intro q;exact ih (congrArg Prod.fst (((Ch (UY (Gv R) (V0 (Gv R) (Vb B R.length) j)) (Gv R).length).eq s t (by omega) (by omega)).1 q))
 have q:=hdv i (by rw [<- hi];exact h)
 rw [Du hs,Du ht] at q
 refine (hB.2 t ht).1 ?_
 have h2:=(hB.2 s hs).2 hd
 unfold Va at q
 rw [h2] at q
 generalize B.getD 0 false=x0 at q
 generalize B.getD t false=x1 at q ⊢
 revert q
 cases x0 <;> cases x1 <;> decide
/-! Side by side. -/
def Vw {α:Type} (Z:List (List Ar)) (k:Nat->α) (s:Nat) (X:List (List Ar)) (kX:Nat->α) (s':Nat):Prop:=
 s'<X.length/\k s=kX s'/\(Dv Z s↔Dv X s')/\(∀ a∈(Gv Z).getD s [],∃ b∈(Gv X).getD s' [],b.1=a.1/\kX b.2.toNat=k a.2.toNat)/\∀ b∈(Gv X).getD s' [],∃ a∈(Gv Z).getD s [],a.1=b.1/\k a.2.toNat=kX b.2.toNat
theorem Vw.mt {α:Type} {Z X Y:List (List Ar)} {k kX kY:Nat->α} {s t s' t':Nat} (h1:Vw Z k s X kX s') (h2:Vw Z k t Y kY t') (hm:MtK X kX Y kY) (h:k s=k t):(Dv Z s->Dv Z t)/\∀ a∈(Gv Z).getD s [],∃ b∈(Gv Z).getD t [],b.1=a.1/\k b.2.toNat=k a.2.toNat:=by
 obtain ⟨a1,a2,a3,a4,a5⟩:=h1
 obtain ⟨b1,b2,b3,b4,b5⟩:=h2
 obtain ⟨m1,m2⟩:=hm s' t' a1 b1 (by rw [<- a2,<- b2,h])
 refine ⟨fun d=>b3.2 (m1 (a3.1 d)),fun a ha=>?_⟩
 obtain ⟨x,hx,e1,e2⟩:=a4 a ha
 obtain ⟨y,hy,e3,e4⟩:=m2 x hx
 obtain ⟨z,hz,e5,e6⟩:=b5 y hy
 exact ⟨z,hz,by rw [e5,e3,e1],by rw [e6,e4,e2]⟩
theorem Y4 {A R:List (List Ar)} (hz:Bg (Dy A R)=true) (hA:Bg A=true) {s:Nat} (hs:s<A.length) {a:Ar}:a∈(Gv (Dy A R)).getD s []↔a∈(Gv A).getD s []:=by
 have hlA:Br A=true:=gEg (gE4 hA).1
 have hE:=Ce true hlA
 rw [Gw hz (by rw [C1];omega),Gw hA hs]
 refine or_congr (and_congr_right fun _=>exists_congr fun u=>and_congr_right fun _=>HB hE hs) (and_congr_right fun _=>exists_congr fun t=>?_)
 rw [HB hE hs]
 refine and_congr_right fun hr=>?_
 rw [Rq (hr.lt hs hE)]
theorem Y5 {A R:List (List Ar)} (hz:Bg (Dy A R)=true) (hR:Bg R=true) {s:Nat} (hs:s<R.length) {a:Ar}:a∈(Gv (Dy A R)).getD (A.length+s) []↔∃ b∈(Gv R).getD s [],a=(b.1,b.2+(A.length:Int)):=by
 have hlo:Br R=true:=gEg (gE4 hR).1
 rw [Gw hz (by rw [C1];omega)]
 constructor
 rotate_left
 ·rintro ⟨b,hb,rfl⟩
  rcases (Gw hR hs).1 hb with ⟨h0,u,hu,hr⟩ | ⟨h0,t,hr,ha⟩
  ·exact .inl ⟨h0,A.length+u,by simp only;omega,(HD hlo).2 ⟨u,rfl,hr⟩⟩
  exact .inr ⟨h0,A.length+t,(HD hlo).2 ⟨t,rfl,hr⟩,by rw [Rr];exact List.mem_map.2 ⟨b,ha,rfl⟩⟩
 rintro (⟨h0,u,hu,hr0⟩ | ⟨h0,t,hr0,ha⟩)
 rotate_left
 ·obtain ⟨v,rfl,hr⟩:=(HD hlo).1 hr0
  rw [Rr] at ha
  obtain ⟨b,hb,rfl⟩:=List.mem_map.1 ha
  exact ⟨b,(Gw hR hs).2 (.inr ⟨h0,v,hr,hb⟩),rfl⟩
 obtain ⟨v,rfl,hr⟩:=(HD hlo).1 hr0
 exact ⟨(0,(v:Int)),(Gw hR hs).2 (.inl ⟨rfl,v,rfl,hr⟩),by obtain ⟨e,t⟩:=a;simp only at h0 hu ⊢;subst h0;subst hu;congr 1;omega⟩
def YV {α:Type} (n:Nat) (kA kR:Nat->α) (s:Nat):α:=if s<n then kA s else kR (s - n)
theorem MtK.both {α:Type} {A R:List (List Ar)} {kA kR:Nat->α} (hA:Bg A=true) (hR:Bg R=true) (hn:A.length+R.length<=100) (hz:Bg (Dy A R)=true) (h1:MtK A kA A kA) (h2:MtK A kA R kR) (h3:MtK R kR A kA) (h4:MtK R kR R kR):MtK (Dy A R) (YV A.length kA kR) (Dy A R) (YV A.length kA kR):=by
 have hlA:Br A=true:=gEg (gE4 hA).1
 have hlo:Br R=true:=gEg (gE4 hR).1
 have hE:=Ce true hlA
 have v1:∀ s,s<A.length->Vw (Dy A R) (YV A.length kA kR) s A kA s:=fun s hs=>by
  have hk:∀ a∈(Gv A).getD s [],YV A.length kA kR a.2.toNat=kA a.2.toNat:=fun a ha=>if_pos (P5 hA (by omega) hs ha).2
  refine ⟨hs,if_pos hs,Ss hE hs,fun a ha=>?_,fun b hb=>?_⟩
  rotate_left
  ·exact ⟨b,(Y4 hz hA hs).2 hb,rfl,hk b hb⟩
  have ha:=(Y4 hz hA hs).1 ha
  exact ⟨a,ha,rfl,(hk a ha).symm⟩
 have v2:∀ s,s<R.length->Vw (Dy A R) (YV A.length kA kR) (A.length+s) R kR s:=fun s hs=>by
  have hk:∀ a∈(Gv R).getD s [],YV A.length kA kR (a.2+(A.length:Int)).toNat=kR a.2.toNat:=fun a ha=>by
   have:=P5 hR (by omega) hs ha
   unfold YV
   rw [if_neg (by omega)]
   congr 1;omega
  refine ⟨hs,by unfold YV;rw [if_neg (by omega)];congr 1;omega,St hlo,fun a ha=>?_,fun b hb=>?_⟩
  rotate_left
  ·exact ⟨_,(Y5 hz hR hs).2 ⟨b,hb,rfl⟩,rfl,hk b hb⟩
  obtain ⟨b,hb,rfl⟩:=(Y5 hz hR hs).1 ha
  exact ⟨b,hb,rfl,(hk b hb).symm⟩
 have hv:∀ s,s<(Dy A R).length->s<A.length\/∃ s',s'<R.length/\s=A.length+s':=fun s hs=>by
  rw [C1] at hs
  by_cases e:s<A.length
  ·exact .inl e
  exact .inr ⟨s - A.length,by omega,by omega⟩
 intro s t hs ht h
 rcases hv s hs with hs2 | ⟨s,hs2,rfl⟩ <;> rcases hv t ht with ht2 | ⟨t,ht2,rfl⟩
 ·exact (v1 s hs2).mt (v1 t ht2) h1 h
 ·exact (v1 s hs2).mt (v2 t ht2) h2 h
 ·exact (v2 s hs2).mt (v1 t ht2) h3 h
 exact (v2 s hs2).mt (v2 t ht2) h4 h
/-! The quotient. -/
structure QuX (R X:List (List Ar)) (f kX:Nat->Nat):Prop where
 inj:∀ i j,i<X.length->j<X.length->kX i=kX j->i=j
 sur:∀ j,j<X.length->∃ s,s<R.length/\f s=kX j
 fw:∀ s j,s<R.length->j<X.length->f s=kX j->∀ b∈R.getD s [],(b.1 ≠ 0\/f b.2.toNat ≠ f s)->∃ i:Nat,i<X.length/\(b.1,(i:Int))∈X.getD j []/\kX i=f b.2.toNat
 bw:∀ j (a:Ar),j<X.length->a∈X.getD j []->∃ i:Nat,i<X.length/\a.2=(i:Int)/\((∃ s,s<R.length/\f s=kX j/\∃ b∈R.getD s [],b.1=a.1/\f b.2.toNat=kX i/\(a.1 ≠ 0\/kX i ≠ kX j))\/(a.1=0/\i=j/\∃ s,s<R.length/\f s=kX j/\Dv R s))
 lp:∀ s j,s<R.length->j<X.length->f s=kX j->Dv R s->(0,(j:Int))∈X.getD j []
section
variable {R X : List (List Ar)} {f kX : Nat -> Nat}
theorem Yd (hv:Bg R=true) {s:Nat} {b:Ar} (hb:b∈R.getD s []):0<=b.2/\b.2.toNat<R.length:=by
 have hlo:=(gE4 hv).1
 have hs:s<R.length:=by
  by_cases e:s<R.length
  ·exact e
  rw [gE2,List.getElem?_eq_none (by omega)] at hb
  simp at hb
 rw [gE2,gE1 hs,Option.getD_some] at hb
 have h:=hlo.2.2.2 _ (gE6 hs) b hb
 omega
theorem QuX.path (h:QuX R X f kX) (hR:Bg R=true) (hX:Bg X=true) {s u j:Nat} (hs:s<R.length) (hj:j<X.length) (e:f s=kX j) (hr:Rc (Uy true R) s u):∃ i,i<X.length/\Rc (Uy true X) j i/\kX i=f u:=by
 have hE:=Ce true (gEg (gE4 hR).1:Br R=true)
 induction hr with
 | refl=>exact ⟨j,hj,.refl _,e.symm⟩
 | @tail u w hu hw ih=>
  obtain ⟨i,hi,hp,ei⟩:=ih
  have hw2:=(Ff hR).1 hw
  by_cases hc:f w=f u
  ·exact ⟨i,hi,hp,by rw [ei,hc]⟩
  obtain ⟨i2,h1,h2,h3⟩:=h.fw u i (hu.lt hs hE) hi ei.symm _ hw2 (.inr (by simpa using hc))
  exact ⟨i2,h1,hp.tail ((Ff hX).2 h2),by rw [h3];simp⟩
theorem Xr (hR:Bg R=true) {P:Nat->Prop} (hP:∀ u,u<R.length->P u->∃ w v,w∈Uy true R u/\Rc (Uy true R) w v/\v<R.length/\P v):∀ (n u:Nat),u<R.length->P u->Vn R u<=n->Dv R u:=by
 intro n
 induction n with
 | zero=>
  intro u hu _ hr
  exfalso
  have hp:0<(List.range R.length).countP fun x=>@decide (Rc (Uy true R) u x) (Classical.propDecidable _):=List.countP_pos_iff.2 ⟨u,List.mem_range.2 hu,@decide_eq_true _ (Classical.propDecidable _) (Rc.refl u)⟩
  unfold Vn at hr
  omega
 | succ n ih=>
  intro u hu hp hr
  obtain ⟨w,v,hw,hwv,hvl,hv⟩:=hP u hu hp
  by_cases hb:Rc (Uy true R) v u
  ·exact ⟨u,.refl _,w,hw,hwv.trans hb⟩
  have huv:Rc (Uy true R) u v:=(Rc.one hw).trans hwv
  have hlt:Vn R v<Vn R u:=HE (fun x _ hx=>@decide_eq_true _ (Classical.propDecidable _) (huv.trans (@of_decide_eq_true _ (Classical.propDecidable _) hx))) u (List.mem_range.2 hu) (@decide_eq_true _ (Classical.propDecidable _) (Rc.refl u)) (@decide_eq_false _ (Classical.propDecidable _) hb)
  obtain ⟨g,hg,hd⟩:=ih v hvl hv (by omega)
  exact ⟨g,huv.trans hg,hd⟩
theorem XL {E:Nat->List Nat} {u v:Nat} (h:Rc E u v) (hne:u ≠ v):∃ w,w∈E u/\Rc E w v:=by
 induction h with
 | refl=>exact absurd rfl hne
 | @tail a b hab hb ih=>
  by_cases e:u=a
  ·subst e;exact ⟨b,hb,.refl _⟩
  obtain ⟨w,h1,h2⟩:=ih e
  exact ⟨w,h1,h2.tail hb⟩
end
set_option maxRecDepth 100000
def WI:List Int:=[0,0,2,3,4,2,3,1,2,5,1025]
theorem XM:∀ x∈WI,0<=x/\x<=1025:=by decide
theorem Wx:WI.length=11:=rfl
theorem X7:WI.take 11=WI:=rfl
theorem Xc (T:List Int) (hT:TpOk T) (a:Nat) (ha:a<=100000000):FC Tryd.prog 25 [.a (.c (.p 0 0))] [tape T a] (fun r o=>o=[tape T (a+1)]/\∃ v:Int,r=.i v/\0<=v/\v<=1025):=by
 refine A8 Tryd.func25 rfl (by rw [Tryd.ntmps25];simp) ?_
 rw [Tryd.ntmps25]
 simp only [Bs,tape]
 (refine Ue (an @List.set_cons_zero.{0} @List.set_cons_succ.{0}) ?_;(repeat clear hK K);repeat refine kq fun K hK=>?_)
 (refine B3 (Bh (r:=⟨3,1,true,A5 WI⟩) 1 (Af WI) rfl (I9 _) (show 0<(1:Nat) by omega)) ?_;simp only [ST.frz,A0.frz,AV.frz,C.frz,Nat.le_refl,List.set_cons_zero,List.set_cons_succ,go_sem,A3,Wx,AC,X7])
 (refine Ue (an @A3 @Wx) ?_;(repeat clear hK K);repeat refine kq fun K hK=>?_)
 (refine A9 rfl ?_;intro K1 hK1;refine ct [0] (Wz T a 11 hT (by omega) (by omega)) ?_ ?_)
 ·rintro _ _ ⟨rfl,v,rfl,_⟩;rfl
 rintro _ _ ⟨rfl,v,rfl,hv⟩
 (simp only [AK,CB,tape,List.append_nil,List.nil_append,List.length_map,go_sem];refine hK1 _ ?_;clear hK1 K1)
 have hv2:v<WI.length:=by rw [Wx];omega
 (refine Ue (an @A3 (Ap (gE1 hv2))) ?_;(repeat clear hK K);repeat refine kq fun K hK=>?_)
 refine Uo [0] Tryd.results25 ?_
 exact ⟨_,rfl,XM _ (gE6 hv2)⟩

theorem XN (m:Nat):(List.replicate m (C.o (2,29) [])).map TF=Bd (List.replicate m []):=by
 simp [Bd,TF,Al]
theorem Xs (m:Nat):OkSys 3 m (List.replicate m []):=⟨by simp,fun r hr=>by
 rw [List.mem_replicate] at hr
 rw [hr.2]
 exact ⟨by simp [SortA],by simp,by simp⟩⟩

def Yu (R:List (List Ar)):Ob:=.r ⟨24,1,false,[.t 1 (Ae R)]⟩
def UL (k:Nat):C->C
 | .o k cs=>.t k.1 cs
 | .v (.slice none 0 0)=>.t k []
 | c=>c
def UM:List Nat->List C->List C
 | k :: ks,c :: cs=>UL k c :: UM ks cs
 | [],c :: cs=>TF c :: UM [] cs
 | _,[]=>[]
theorem LK (k:Nat) (c:C):UL k c=TF c\/(c=.v (.slice none 0 0)/\UL k c=.t k []):=by
 unfold UL
 split
 ·exact .inl rfl
 ·exact .inr ⟨rfl,rfl⟩
 rename_i h1 h2
 refine .inl ?_
 cases c <;> first | rfl | exact absurd rfl (h1 _ _)
theorem LL {ks:List Nat} {cs:List C} {j:Nat} {c:C} (h:(UM ks cs)[j]?=some c):∃ c0,cs[j]?=some c0/\(c=TF c0\/∃ k,c0=.v (.slice none 0 0)/\c=.t k []):=by
 induction cs generalizing ks j with
 | nil=>cases ks <;> simp [UM] at h
 | cons x r ih=>
  cases ks with
  | nil=>
   cases j with
   | zero=>simp [UM] at h;exact ⟨x,rfl,.inl h.symm⟩
   | succ j=>simp [UM] at h;obtain ⟨c0,h1,h2⟩:=ih h;exact ⟨c0,by simpa using h1,h2⟩
  | cons k ks=>
   cases j with
   | zero=>
    simp [UM] at h
    refine ⟨x,rfl,?_⟩
    rcases LK k x with e | ⟨e1,e2⟩
    ·exact .inl (by rw [<- h,e])
    exact .inr ⟨k,e1,by rw [<- h,e2]⟩
   | succ j=>simp [UM] at h;obtain ⟨c0,h1,h2⟩:=ih h;exact ⟨c0,by simpa using h1,h2⟩
theorem OO {ks:List Nat} {cs:List C} {j:Nat} {k:Nat × Nat} {ts:List Tr}:(UM ks cs)[j]? ≠ some (.o k ts):=by
 intro h
 obtain ⟨c0,_,h | ⟨_,_,h⟩⟩:=LL h
 ·exact IK h.symm
 cases h
theorem LM (ks:List Nat) (cs:List C):(UM ks cs).length=cs.length:=by
 induction cs generalizing ks with
 | nil=>cases ks <;> rfl
 | cons x r ih=>cases ks <;> simp [UM,ih]
theorem Ig {s:ST} (i:Nat) (ks:List Nat) {r:Row} (hi:s.hp[i]?=some (.r r)):Le s { s with hp:=s.hp.set i (.r { r with cells:=UM ks r.cells }) }:=by
 rintro M0 w0 a w ⟨g,hpp,hR⟩
 have hlt:i<s.hp.length:=(List.getElem?_eq_some_iff.1 hi).1
 have self:(s.hp.set i (.r { r with cells:=UM ks r.cells }))[i]?=some (.r { r with cells:=UM ks r.cells }):=by simp [hlt]
 have other:∀ q,q ≠ i->(s.hp.set i (.r { r with cells:=UM ks r.cells }))[q]?=s.hp[q]?:=fun q hq=>by rw [gE5 (Ne.symm hq)]
 generalize hh:s.hp.set i (.r { r with cells:=UM ks r.cells })=hp' at *
 have ncl:∀ j,¬ Lv hp' g (.cl i j):=by
  rintro j ⟨r2,k,cs,e1,e2,_⟩
  rw [self] at e1
  cases e1
  exact OO e2
 have sub:∀ ℓ,Lv hp' g ℓ->Lv s.hp g ℓ:=by
  intro ℓ hl
  cases ℓ with
  | ob q=>
   by_cases hq:q=i
   ·subst hq
    rcases hl with ⟨r2,e1,e2⟩ | ⟨kv,e1⟩
    ·exact .inl ⟨r,hi,e2⟩
    rw [self] at e1;cases e1
   rcases hl with ⟨r2,e1,e2⟩ | ⟨kv,e1⟩
   ·exact .inl ⟨r2,by rw [<- other q hq];exact e1,e2⟩
   exact .inr ⟨kv,by rw [<- other q hq];exact e1⟩
  | cl q j=>
   by_cases hq:q=i
   ·subst hq;exact absurd hl (ncl j)
   obtain ⟨r2,k,cs,e1,e2,e3⟩:=hl
   exact ⟨r2,k,cs,by rw [<- other q hq];exact e1,e2,e3⟩
 have ow:∀ b,Ow hp' g b->Ow s.hp g b:=fun b ho=>ho.imp (fun h=>h) (fun ⟨ℓ,hl,e⟩=>⟨ℓ,sub ℓ hl,e⟩)
 have hm:Mo g s.hp w g hp' w (fun _=>True):=by
  refine ⟨fun q hq=>⟨?_,rfl,rfl⟩,fun b _ ho=>ow b ho,Nat.le_refl _,fun _ _ _=>rfl,fun q _ hq r2 j k cs e1 e2=>?_⟩
  ·by_cases e:q=i
   ·subst e;exact ⟨_,self,rfl⟩
   obtain ⟨o,h1,h2⟩:=hq
   exact ⟨o,by rw [other q e];exact h1,h2⟩
  by_cases e:q=i
  rotate_left
  ·exact ⟨r2,by rw [<- other q e];exact e1,e2,fun _=>rfl⟩
  subst e
  rw [self] at e1
  cases e1
  exact absurd e2 OO
 have hr:=hR.hr
 refine ⟨g,⟨by show s.pin<=hp'.length;rw [<- hh];simpa using hpp.1,hpp.2⟩,hR.mo hm ?_ (fun ℓ hl=>hR.new ℓ (sub ℓ hl)) hR.fp⟩
 refine ⟨hr.ml,fun ℓ hl=>hr.md ℓ (sub ℓ hl),fun ℓ ℓ' h1 h2=>hr.inj ℓ ℓ' (sub ℓ h1) (sub ℓ' h2),fun q r2 e1=>?_,fun q kv e1=>?_,hm.gl hr.gl⟩
 rotate_left
 ·by_cases e:q=i
  ·subst e;rw [self] at e1;cases e1
  rw [other q e] at e1
  exact MpR.mo hm e1 (hr.mp q kv e1) rfl
 by_cases e:q=i
 rotate_left
 ·rw [other q e] at e1
  exact RowR.mo hm e1 (hr.row q r2 e1) (fun _=>rfl) (fun _ _ _ _ _=>⟨rfl,rfl⟩)
 subst e
 rw [self] at e1
 cases e1
 rcases hr.row q r hi with ⟨k1,k2⟩ | ⟨k1,k2,arr,k3,k4,k5,k6,k7⟩
 ·exact .inl ⟨k1,by simp [k2,UM]⟩
 refine .inr ⟨k1,fun h1 h2=>k2 h1 (List.length_eq_zero_iff.1 (by rw [<- LM ks];exact List.length_eq_zero_iff.2 h2)),arr,k3,by simpa [LM] using k4,k5,k6,fun j c hj=>?_⟩
 obtain ⟨c0,hc0,hcc⟩:=LL hj
 obtain ⟨u,u1,u2⟩:=k7 j c0 hc0
 refine ⟨u,u1,?_⟩
 rcases hcc with rfl | ⟨k,rfl,rfl⟩
 rotate_left
 ·have hu:u=.slice none 0 0:=u2
  rw [hu]
  exact Rd.e _ _ _
 cases c0 with
 | o k cs=>exact CV (t:=.l k.1 cs) (fun b _ ho=>ow b ho) hr hi ncl sub hc0 (.inl rfl) u2
 | _=>exact CellR.mo hm u2 (fun k cs hc=>by cases hc)
theorem PH {s:ST} (i j id:Nat) {r:Row} {e0 k0:Nat} (hne:i ≠ id) (hi:s.hp[i]?=some (.r r)) (hj:r.cells[j]?=some (.v (.slice none 0 0))) (hid:s.hp[id]?=some (.r ⟨e0,k0,true,[]⟩)):Le s { s with hp:=s.hp.set i (.r { r with cells:=r.cells.set j (.s id 0) }) }:=by
 rintro M0 w0 a w ⟨g,hpp,hR⟩
 have hlt:i<s.hp.length:=(List.getElem?_eq_some_iff.1 hi).1
 have hjl:j<r.cells.length:=(List.getElem?_eq_some_iff.1 hj).1
 have self:(s.hp.set i (.r { r with cells:=r.cells.set j (.s id 0) }))[i]?=some (.r { r with cells:=r.cells.set j (.s id 0) }):=by simp [hlt]
 have other:∀ q,q ≠ i->(s.hp.set i (.r { r with cells:=r.cells.set j (.s id 0) }))[q]?=s.hp[q]?:=fun q hq=>by rw [gE5 (Ne.symm hq)]
 have cel:∀ q c,(r.cells.set j (.s id 0))[q]?=some c->(q=j/\c=.s id 0)\/(q ≠ j/\r.cells[q]?=some c):=by
  intro q c hq
  by_cases e:q=j
  ·subst e;rw [gEc hjl] at hq;cases hq;exact .inl ⟨rfl,rfl⟩
  rw [gE5 (Ne.symm e)] at hq;exact .inr ⟨e,hq⟩
 generalize hh:s.hp.set i (.r { r with cells:=r.cells.set j (.s id 0) })=hp' at *
 have sub:∀ ℓ,Lv hp' g ℓ->Lv s.hp g ℓ:=by
  intro ℓ hl
  cases ℓ with
  | ob q=>
   by_cases hq:q=i
   ·subst hq
    rcases hl with ⟨r2,e1,e2⟩ | ⟨kv,e1⟩
    ·exact .inl ⟨r,hi,e2⟩
    rw [self] at e1;cases e1
   rcases hl with ⟨r2,e1,e2⟩ | ⟨kv,e1⟩
   ·exact .inl ⟨r2,by rw [<- other q hq];exact e1,e2⟩
   exact .inr ⟨kv,by rw [<- other q hq];exact e1⟩
  | cl q j2=>
   obtain ⟨r2,k,cs,e1,e2,e3⟩:=hl
   by_cases hq:q=i
   rotate_left
   ·exact ⟨r2,k,cs,by rw [<- other q hq];exact e1,e2,e3⟩
   subst hq
   rw [self] at e1
   cases e1
   rcases cel j2 _ e2 with ⟨_,h⟩ | ⟨_,h⟩
   ·cases h
   exact ⟨r,k,cs,hi,h,e3⟩
 have ow:∀ b,Ow hp' g b->Ow s.hp g b:=fun b ho=>ho.imp (fun h=>h) (fun ⟨ℓ,hl,e⟩=>⟨ℓ,sub ℓ hl,e⟩)
 have hm:Mo g s.hp w g hp' w (fun _=>True):=by
  refine ⟨fun q hq=>⟨?_,rfl,rfl⟩,fun b _ ho=>ow b ho,Nat.le_refl _,fun _ _ _=>rfl,fun q _ hq r2 j2 k cs e1 e2=>?_⟩
  ·by_cases e:q=i
   ·subst e;exact ⟨_,self,rfl⟩
   obtain ⟨o,h1,h2⟩:=hq
   exact ⟨o,by rw [other q e];exact h1,h2⟩
  by_cases e:q=i
  rotate_left
  ·exact ⟨r2,by rw [<- other q e];exact e1,e2,fun _=>rfl⟩
  subst e
  rw [self] at e1
  cases e1
  rcases cel j2 _ e2 with ⟨_,h⟩ | ⟨_,h⟩
  ·cases h
  exact ⟨r,hi,h,fun _=>rfl⟩
 have hr:=hR.hr
 refine ⟨g,⟨by show s.pin<=hp'.length;rw [<- hh];simpa using hpp.1,hpp.2⟩,hR.mo hm ?_ (fun ℓ hl=>hR.new ℓ (sub ℓ hl)) hR.fp⟩
 refine ⟨hr.ml,fun ℓ hl=>hr.md ℓ (sub ℓ hl),fun ℓ ℓ' h1 h2=>hr.inj ℓ ℓ' (sub ℓ h1) (sub ℓ' h2),fun q r2 e1=>?_,fun q kv e1=>?_,hm.gl hr.gl⟩
 rotate_left
 ·by_cases e:q=i
  ·subst e;rw [self] at e1;cases e1
  rw [other q e] at e1
  exact MpR.mo hm e1 (hr.mp q kv e1) rfl
 by_cases e:q=i
 rotate_left
 ·rw [other q e] at e1
  exact RowR.mo hm e1 (hr.row q r2 e1) (fun _=>rfl) (fun _ _ _ _ _=>⟨rfl,rfl⟩)
 subst e
 rw [self] at e1
 cases e1
 rcases hr.row q r hi with ⟨k1,k2⟩ | ⟨k1,k2,arr,k3,k4,k5,k6,k7⟩
 ·rw [k2] at hj;simp at hj
 refine .inr ⟨k1,fun h1 h2=>k2 h1 (List.length_eq_zero_iff.1 (by rw [<- List.length_set (i:=j) (a:=C.s id 0)];exact List.length_eq_zero_iff.2 h2)),arr,k3,by simpa using k4,k5,k6,fun j2 c hj2=>?_⟩
 rcases cel j2 c hj2 with ⟨rfl,rfl⟩ | ⟨_,h⟩
 rotate_left
 ·obtain ⟨u,u1,u2⟩:=k7 j2 c h
  exact ⟨u,u1,CellR.mo hm u2 (fun k cs hc _=>⟨rfl,rfl⟩)⟩
 obtain ⟨u,u1,u2⟩:=k7 j2 _ hj
 have hu:u=.slice none 0 0:=u2
 refine ⟨u,u1,?_⟩
 have hκ:g.κ id=0:=by
  rcases hr.row id _ hid with ⟨z,_⟩ | ⟨_,z,_⟩
  ·exact z
  exact absurd rfl (z rfl)
 have hid':hp'[id]?=some (.r ⟨e0,k0,true,[]⟩):=by rw [other id (Ne.symm hne)];exact hid
 exact ⟨⟨_,hid',rfl⟩,Nat.zero_le _,none,by rw [hu,hκ],fun hn=>absurd hκ hn,by simp⟩
theorem Rk {s:ST} (e k:Nat):Le s { s with hp:=s.hp++[.r ⟨e,k,true,[]⟩] }:=by
 rintro M0 w0 a w ⟨g,hpp,hR⟩
 have hb:=hR.birth0 (w':=w) (hp':=s.hp++[.r ⟨e,k,true,[]⟩]) (id:=s.hp.length) (r:=⟨e,k,true,[]⟩) BV (Bp _) (AJ _) rfl (Fp.refl _ _)
 exact ⟨_,⟨by have:=hpp.1;simp;omega,hpp.2.trans (CF hpp.1)⟩,hb⟩
def BD (R:List (List Ar)):List C:=R.map fun r=>C.o (2,29) (Al r)
theorem D1 (xs:List (List Ar)):(BD xs).length=xs.length:=by simp [BD]
theorem FT {xs:List (List Ar)} {i:Nat} {x:List Ar} (h:xs[i]?=some x):(BD xs)[i]?=some (.o (2,29) (Al x)):=by simp [BD,h]
theorem Km (xs:List (List Ar)) (i:Nat) (x:List Ar):(BD xs).set i (.o (2,29) (Al x))=BD (xs.set i x):=by simp [BD,List.map_set]
theorem Ea (f:List Nat) (L:List (List Ar)):(BD L).map (C.ren f)=BD L:=by simp [BD,C.ren,Function.comp_def]
theorem LN (L:List (List Ar)):(BD L).map TF=Bd L:=by simp [BD,Bd,TF,Function.comp_def]
end Go.Proofs.YtjijjfkalheokaaDoor
