/- Lemmas. -/
import Derived.Test.YtjijjfkalheokaaGreatDoorG45
import Derived.Test.YtjijjfkalheokaaGreatDoorG11
import Derived.Test.YtjijjfkalheokaaGreatDoorG39
import Derived.Test.YtjijjfkalheokaaGreatDoorZk
import Derived.Test.YtjijjfkalheokaaGreatDoorMF
import Derived.Test.YtjijjfkalheokaaGreatDoorMD
import Derived.Test.YtjijjfkalheokaaGreatDoorMlz
namespace Go.Proofs.YtjijjfkalheokaaGreatDoor
set_option linter.unusedVariables false
set_option linter.unusedSimpArgs false

def Yl (f:Nat->Nat) (c:Nat) (o:List (List Ar)) (a:Ar):List (List Ar):=o.set c (D1 (a.1,(f a.2.toNat:Int)) (o.getD c []))
def V1 (f:Nat->Nat) (c:Nat) (o:List (List Ar)) (row:List Ar):List (List Ar):=row.foldl (Yl f c) o
theorem SS (f:Nat->Nat) (c:Nat) (o:List (List Ar)) (a:Ar):(Yl f c o a).length=o.length:=by simp [Yl]
def SameS (o p:List (List Ar)):Prop:=o.length=p.length/\∀ i a,a∈o.getD i []↔a∈p.getD i []
theorem SameS.one {f:Nat->Nat} {c:Nat} {o p:List (List Ar)} (h:SameS o p) (a:Ar):SameS (Yl f c o a) (WW f c p a):=by
 refine ⟨by rw [SS,RX];exact h.1,fun i b=>?_⟩
 have h1:=h.1
 unfold Yl WW
 simp only [gE2,List.getElem?_set]
 by_cases hi:c=i
 rotate_left
 ·rw [if_neg hi,if_neg hi]
  have h2:=h.2 i b
  simpa only [gE2] using h2
 subst hi
 by_cases hc:c<o.length
 rotate_left
 ·rw [if_pos rfl,if_neg hc,if_pos rfl,if_neg (by omega)]
 have h2:=h.2 c b
 simp only [gE2] at h2
 rw [if_pos rfl,if_pos hc,if_pos rfl,if_pos (by omega)]
 simp only [Option.getD_some,FH,List.mem_append,List.mem_singleton,h2,or_comm]
theorem SameS.row {f:Nat->Nat} {c:Nat}:∀ (row:List Ar) {o p:List (List Ar)},SameS o p->SameS (V1 f c o row) (US f c p row)
 | [],_,_,h=>h
 | a :: r,_,_,h=>SameS.row r (h.one a)
open Go.RowKit
def NumSur (num old:List Int):Prop:=∀ (j:Nat) (s:Int),old[j]?=some s->0<=s/\num[s.toNat]?=some (j:Int)
theorem NumSur.one {num old:List Int} (h:NumSur num old) {t:Int} (h0:0<=t) (h1:t<num.length):NumSur (AX num old t).1 (AX num old t).2:=by
 have htl:t.toNat<num.length:=by omega
 unfold AX
 split
 rotate_left
 ·exact h
 rename_i hneg
 intro j s hs
 simp only at hs ⊢
 rcases Nat.lt_or_ge j old.length with hj | hj
 ·rw [gEa hj] at hs
  obtain ⟨q1,q2⟩:=h j s hs
  refine ⟨q1,?_⟩
  rw [List.getElem?_set,if_neg,q2]
  intro e
  rw [e,gE2,q2,Option.getD_some] at hneg
  omega
 rw [gEb hj] at hs
 have hj':j=old.length:=by
  have:=(List.getElem?_eq_some_iff.1 hs).1
  simp at this
  omega
 subst hj'
 simp at hs
 subst hs
 exact ⟨h0,by rw [List.getElem?_set,if_pos rfl,if_pos htl]⟩
theorem YK (r:List Ar) {num old:List Int} (hr:∀ a∈r,0<=a.2/\a.2<num.length) (h:NumSur num old):NumSur (Eh r num old).1 (Eh r num old).2.1:=by
 induction r generalizing num old with
 | nil=>exact h
 | cons a tl ih=>
  have ha:=hr a (by simp)
  exact ih (fun b hb=>by rw [GV];exact hr b (by simp [hb])) (h.one ha.1 ha.2)
theorem YT (num old:List Int) (t:Int) {j:Nat} {s:Int} (h:old[j]?=some s):(AX num old t).2[j]?=some s:=by
 unfold AX
 split
 rotate_left
 ·exact h
 simp only
 rw [gEa (List.getElem?_eq_some_iff.1 h).1,h]
theorem Y1 (r:List Ar) {num old:List Int} {j:Nat} {s:Int} (h:old[j]?=some s):(Eh r num old).2.1[j]?=some s:=by
 induction r generalizing num old with
 | nil=>exact h
 | cons a tl ih=>exact ih (YT num old a.2 h)
theorem YC (r:List Ar) (num old:List Int):old.length<=(Eh r num old).2.1.length:=by
 rcases Nat.eq_zero_or_pos old.length with h | h
 ·omega
 have:=Y1 r (num:=num) (old:=old) (j:=old.length - 1) (s:=old[old.length - 1]) (gE1 (by omega))
 have:=(List.getElem?_eq_some_iff.1 this).1
 omega
theorem NumSur.start {n:Nat} (hn:0<n):NumSur ((List.replicate n (-1)).set 0 0) [0]:=by
 intro j s hs
 cases j with
 | succ j=>simp at hs
 | zero=>
  simp at hs;subst hs
  exact ⟨by omega,by simp [hn]⟩
theorem YW (V:List (List Ar)) (s:Nat):Bw (V.set s [])+(V.getD s []).length=Bw V:=by
 induction V generalizing s with
 | nil=>simp [Bw]
 | cons x r ih=>
  cases s with
  | zero=>simp [Bw];omega
  | succ s=>
   have:=ih s
   simp only [List.set_cons_succ,List.getD_cons_succ]
   simp only [Bw,List.map_cons,List.sum_cons] at this ⊢
   omega
theorem YD (l acc:List Ar) (h:SortA acc):SortA (l.foldl (fun acc a=>D1 a acc) acc):=by
 induction l generalizing acc with
 | nil=>exact h
 | cons a r ih=>exact ih _ (Ii h)
structure RowsG (n:Nat) (out:List (List Ar)):Prop where
 so:∀ r∈out,SortA r
 bd:∀ r∈out,∀ a∈r,0<=a.1/\a.1<=1025/\0<=a.2/\a.2<(n:Int)
theorem RowsG.le {n m:Nat} {out:List (List Ar)} (h:RowsG n out) (hm:n<=m):RowsG m out:=⟨h.so,fun r hr a ha=>by have:=h.bd r hr a ha;omega⟩
theorem YE {R:List (List Ar)} {B:Nat} (hb:∀ r∈R,∀ a∈r,0<=a.1/\a.1<=1025/\0<=a.2/\a.2<(R.length:Int)):∀ (f i:Nat) (num old:List Int) (out V:List (List Ar)),NumOk R.length num old->NumInj num old->NumSur num old->i=out.length->i<=old.length->R.length<=f+i->
  RowsG old.length out->V.length=R.length->(∀ s,s<R.length->(∀ j,j<i->old[j]? ≠ some (s:Int))->V.getD s []=R.getD s [])->Bw out+Bw V<=B->
  old.length<=(F2 R f i num old out).1.length/\(F2 R f i num old out).1.length<=R.length/\RowsG (F2 R f i num old out).1.length (F2 R f i num old out).1/\Bw (F2 R f i num old out).1<=B:=by
 intro f
 induction f with
 | zero=>
  intro i num old out V hN hI hS hi ho hf hG hVl hV ht
  have hle:=hN.le
  simp only [F2]
  exact ⟨by omega,by omega,hG.le (by omega),by omega⟩
 | succ f ih=>
  intro i num old out V hN hI hS hi ho hf hG hVl hV ht
  have hle:=hN.le
  unfold F2
  split
  ·rename_i hs
   have:=List.getElem?_eq_none_iff.1 hs
   exact ⟨by simp only;omega,by simp only;omega,hG.le (by simp only;omega),by simp only;omega⟩
  rename_i s hs
  have hs0:=hN.st s (gE9 hs)
  have hsl:s.toNat<R.length:=by omega
  have hil:=(List.getElem?_eq_some_iff.1 hs).1
  have hg:R.getD s.toNat []=R[s.toNat]:=by rw [gE2,gE1 hsl];rfl
  have hrm:=gE6 hsl
  have hVs:V.getD s.toNat []=R.getD s.toNat []:=hV s.toNat hsl fun j hj he=>by
   have e:((s.toNat:Nat):Int)=s:=by omega
   rw [e] at he
   have q1:=(hS j s he).2
   have q2:=(hS i s hs).2
   rw [q1] at q2
   injection q2 with q2
   omega
  have hts:=YW V s.toNat
  rw [hVs,hg] at hts
  rw [hg]
  have hq:∀ a∈Cq R[s.toNat],0<=a.2/\a.2<(num.length:Int):=fun a ha=>by
   have:=hb _ hrm a ((C8 _ a).1 ha);rw [hN.len];omega
  have hqe:∀ a∈Cq R[s.toNat],0<=a.1/\a.1<=1025:=fun a ha=>by
   have:=hb _ hrm a ((C8 _ a).1 ha);omega
  have hl3:=Gj R[s.toNat]
  generalize Cq R[s.toNat]=q at *
  have hN2:=NumOk.go q [] hN (by rw [<- hN.len];exact hq)
  have hn2:=LF q num old []
  rw [hn2] at hN2 ⊢
  simp only at hN2 ⊢
  have hI2:=Kl q hq hI
  have hS2:=YK q hq hS
  obtain ⟨hm1,hm2⟩:=PE (old:=old) q hq
  have hgr:=YC q num old
  have hold:∀ (j:Nat) (x:Int),old[j]?=some x->(Eh q num old).2.1[j]?=some x:=fun j x h=>Y1 q h
  have hrow:SortA ((Eh q num old).2.2.foldl (fun acc a=>D1 a acc) []):=YD _ _ List.Pairwise.nil
  have hrl:=EC (Eh q num old).2.2 []
  have hrb:∀ a∈(Eh q num old).2.2.foldl (fun acc a=>D1 a acc) [],0<=a.1/\a.1<=1025/\0<=a.2/\a.2<((Eh q num old).2.1.length:Int):=fun a ha=>by
   rw [Hm] at ha
   rcases ha with ha | ha
   ·simp at ha
   rw [hm1] at ha
   obtain ⟨b,hb1,rfl⟩:=List.mem_map.1 ha
   obtain ⟨x,hx,hp⟩:=hm2 b hb1
   have h1:=hqe b hb1
   have h2:=(List.getElem?_eq_some_iff.1 (hI2.inj _ _ hx hp)).1
   simp only [gE2,hx,Option.getD_some]
   omega
  rw [hm1,List.length_map] at hrl
  simp only [List.length_nil,Nat.zero_add] at hrl
  rw [<- hm1] at hrl
  generalize (Eh q num old).2.2.foldl (fun acc a=>D1 a acc) []=nr at *
  generalize (Eh q num old).1=num2 at *
  generalize (Eh q num old).2.1=old2 at *
  obtain ⟨k1,k2,k3,k4⟩:=ih (i+1) num2 old2 (out++[nr]) (V.set s.toNat []) hN2 hI2 hS2 (by simp;omega) (by omega) (by omega) ⟨fun r hr=>by
   rcases List.mem_append.1 hr with h | h
   ·exact hG.so r h
   ·simp at h;subst h;exact hrow,fun r hr a ha=>by
   rcases List.mem_append.1 hr with h | h
   ·have:=hG.bd r h a ha;omega
   ·simp at h;subst h;exact hrb a ha⟩ (by simp [hVl]) (fun t htl hto=>by
   have hne:s.toNat ≠ t:=fun e=>hto i (by omega) (by rw [hold i s hs];congr 1;omega)
   rw [gE2,gE5 hne,<- gE2]
   exact hV t htl fun j hj he=>hto j (by omega) (hold j _ he)) (by rw [MM];omega)
  exact ⟨by omega,k2,k3,k4⟩
theorem B0 {R:List (List Ar)} (h:BE R=true):Bv (BT R).1=true:=by
 have hp:UR R:=gE4 h
 have h1:=hp.1
 obtain ⟨k1,k2,k3,k4⟩:=YE (B:=Bw R) hp.2.2.2 R.length 0 _ _ [] R (NumOk.start h1) (NumInj.start h1) (NumSur.start h1) rfl (by simp) (by omega) ⟨by simp,by simp⟩ rfl (fun _ _ _=>rfl) (by simp [Bw])
 have h2:=hp.2.1
 have h3:=hp.2.2.1
 simp only [List.length_singleton] at k1
 exact gEg ⟨⟨k1,Nat.le_trans k2 h2,Nat.le_trans k4 h3,k3.bd⟩,k3.so⟩
def ZB (m c:Int):Int:=if m<c+1 then c+1 else m
def ZC (m:Int) (l:List Int):Int:=l.foldl ZB m
def Zk:List Int->Int->Bool
 | [],_=>true
 | c :: r,m=>(!decide (c<0) && !decide (c > m)) && Zk r (ZB m c)
def Zy (C:List Int) (n:Nat):Bool:=Zk C 0 && decide (C.length=n)
theorem YL (m:Int) (l:List Int) (c:Int):ZC m (l++[c])=ZB (ZC m l) c:=by unfold ZC;rw [List.foldl_append];rfl
theorem bz (l:List Int):∀ m:Int,m<=ZC m l/\∀ c∈l,c+1<=ZC m l:=by
 induction l with
 | nil=>intro m;exact ⟨Int.le_refl _,by simp⟩
 | cons a r ih=>
  intro m
  obtain ⟨h1,h2⟩:=ih (ZB m a)
  have e:ZC m (a :: r)=ZC (ZB m a) r:=rfl
  have h3:m<=ZB m a/\a+1<=ZB m a:=by unfold ZB;split <;> omega
  rw [e]
  refine ⟨by omega,fun c hc=>?_⟩
  rcases List.mem_cons.1 hc with rfl | hc
  ·omega
  exact h2 c hc
theorem bA {n:Nat} (l:List Int):∀ m:Int,Zk l m=true->0<=m->ZC m l<=m+l.length/\(∀ c∈l,0<=c):=by
 induction l with
 | nil=>intro m _ _;exact ⟨by simp [ZC],by simp⟩
 | cons a r ih=>
  intro m h hm
  simp only [Zk,Bool.and_eq_true,Bool.not_eq_true',decide_eq_false_iff_not] at h
  obtain ⟨⟨h1,h2⟩,h3⟩:=h
  have h4:0<=ZB m a/\ZB m a<=m+1:=by unfold ZB;split <;> omega
  obtain ⟨q1,q2⟩:=ih (ZB m a) h3 h4.1
  have e:ZC m (a :: r)=ZC (ZB m a) r:=rfl
  rw [e]
  refine ⟨by simp only [List.length_cons];omega,fun c hc=>?_⟩
  rcases List.mem_cons.1 hc with rfl | hc
  ·omega
  exact q2 c hc
def ZU (x:Int) (l:List Int):Int:=l.foldl (fun a b=>if a<b then b else a) x
theorem ay (x:Int) (l:List Int) (y:Int):ZU x (l++[y])=if ZU x l<y then y else ZU x l:=by unfold ZU;rw [List.foldl_append];rfl
theorem bb (l:List Int):∀ x:Int,ZC (x+1) l=ZU x l+1:=by
 induction l with
 | nil=>intro x;rfl
 | cons a r ih=>
  intro x
  have e:ZB (x+1) a=(if x<a then a else x)+1:=by unfold ZB;split <;> split <;> omega
  show ZC (ZB (x+1) a) r=ZU (if x<a then a else x) r+1
  rw [e,ih]
theorem ah {x:Int} (l:List Int) (h:0<=x):ZC 0 (x :: l)=ZU x (x :: l)+1:=by
 have e1:ZB 0 x=x+1:=by unfold ZB;rw [if_pos (by omega)]
 have e2:ZU x (x :: l)=ZU x l:=by show ZU (if x<x then x else x) l=_;simp
 rw [e2,<- bb,<- e1];rfl
def bY (C:List Int) (v:Nat):Nat:=(C.getD v 0).toNat
def bZ (C:List Int):Nat:=(ZC 0 C).toNat
theorem Y2 {C:List Int} {n:Nat} (h:Zy C n=true):C.length=n/\bZ C<=n/\(∀ v,v<n->bY C v<bZ C/\C[v]?=some ((bY C v:Nat):Int))/\ZC 0 C=(bZ C:Int):=by
 simp only [Zy,Bool.and_eq_true,decide_eq_true_eq] at h
 obtain ⟨h1,h2⟩:=h
 obtain ⟨q1,q2⟩:=bA (n:=n) C 0 h1 (Int.le_refl _)
 obtain ⟨p1,p2⟩:=bz C 0
 refine ⟨h2,by unfold bZ;omega,fun v hv=>?_,by unfold bZ;omega⟩
 have hl:v<C.length:=by omega
 have a1:=q2 _ (gE6 hl)
 have a2:=p2 _ (gE6 hl)
 unfold bY bZ
 rw [gE2,gE1 hl,Option.getD_some]
 refine ⟨by omega,by congr 1;omega⟩
def ZD (f:Nat->Nat) (c:Nat) (a:Ar):Option Ar:=if a.1 ≠ 0\/f a.2.toNat ≠ c then some (a.1,(f a.2.toNat:Int)) else none
def R1 (x:Option Ar) (c:Nat) (o:List (List Ar)):List (List Ar):=match x with | some b=>o.set c (o.getD c []++[b]) | none=>o
def X0 (f:Nat->Nat) (c:Nat) (o:List (List Ar)) (row:List Ar):List (List Ar):=row.foldl (fun o a=>R1 (ZD f c a) c o) o
def R0 (f:Nat->Nat) (m:Nat) (R:List (List Ar)):Nat->List (List Ar)
 | 0=>List.replicate m []
 | k+1=>X0 f (f k) (R0 f m R k) (R.getD k [])
def ZE (b:Bool) (c:Nat):Option Ar:=if b then some (0,(c:Int)) else none
def c9 (f:Nat->Nat) (m:Nat) (B:List Bool) (k:Nat):List Bool:=(List.range m).map fun c=>(List.range k).any fun s=>decide (f s=c) && B.getD s false
def Z2 (L:List Bool) (o:List (List Ar)):Nat->List (List Ar)
 | 0=>o
 | c+1=>R1 (ZE (L.getD c false) c) c (Z2 L o c)
def qR (R:List (List Ar)) (C:List Int) (B:List Bool):List (List Ar):=Z2 (c9 (bY C) (bZ C) B R.length) (R0 (bY C) (bZ C) R R.length) (bZ C)
theorem ZH (x:Option Ar) (c:Nat) (o:List (List Ar)):(R1 x c o).length=o.length:=by cases x <;> simp [R1]
theorem ZL (f:Nat->Nat) (c:Nat) (row:List Ar):∀ o,(X0 f c o row).length=o.length:=by
 induction row with
 | nil=>intro o;rfl
 | cons a r ih=>intro o;show (X0 f c (R1 (ZD f c a) c o) r).length=_;rw [ih,ZH]
theorem Y0 (f:Nat->Nat) (m:Nat) (R:List (List Ar)) (k:Nat):(R0 f m R k).length=m:=by
 induction k with
 | zero=>simp [R0]
 | succ k ih=>rw [R0,ZL,ih]
theorem ZM (L:List Bool) (o:List (List Ar)) (k:Nat):(Z2 L o k).length=o.length:=by
 induction k with
 | zero=>rfl
 | succ k ih=>rw [Z2,ZH,ih]
theorem ZT (f:Nat->Nat) (c:Nat) (o:List (List Ar)) (row:List Ar) (a:Ar):X0 f c o (row++[a])=R1 (ZD f c a) c (X0 f c o row):=by unfold X0;rw [List.foldl_append];rfl
theorem ZN {x:Option Ar} {c d:Nat} {o:List (List Ar)} {a:Ar} (h:c<o.length):a∈(R1 x c o).getD d []↔a∈o.getD d []\/(d=c/\x=some a):=by
 cases x with
 | none=>simp [R1]
 | some b=>
  unfold R1
  simp only
  rw [gE2]
  by_cases e:c=d
  rotate_left
  ·rw [gE5 e,<- gE2]
   simp [Ne.symm e]
  subst e
  rw [gEc h,Option.getD_some,List.mem_append]
  simp [eq_comm]
theorem az {f:Nat->Nat} {c d:Nat} {a:Ar}:∀ (row:List Ar) (o:List (List Ar)),c<o.length->(a∈(X0 f c o row).getD d []↔a∈o.getD d []\/(d=c/\∃ b∈row,ZD f c b=some a)):=by
 intro row
 induction row with
 | nil=>intro o _;simp [X0]
 | cons b r ih=>
  intro o h
  show a∈(X0 f c (R1 (ZD f c b) c o) r).getD d []↔_
  rw [ih _ (by rw [ZH];exact h),ZN h]
  simp only [List.mem_cons,exists_eq_or_imp]
  rw [or_assoc,<- and_or_left]
def QA (R:List (List Ar)) (f:Nat->Nat) (k d:Nat) (a:Ar):Prop:=∃ s,s<k/\f s=d/\∃ b∈R.getD s [],ZD f d b=some a
def QL (f:Nat->Nat) (B:List Bool) (k d:Nat) (a:Ar):Prop:=a=(0,(d:Int))/\∃ s,s<k/\f s=d/\B.getD s false=true
theorem QA.succ {R:List (List Ar)} {f:Nat->Nat} {k d:Nat} {a:Ar}:QA R f (k+1) d a↔QA R f k d a\/(d=f k/\∃ b∈R.getD k [],ZD f (f k) b=some a):=by
 constructor
 rotate_left
 ·rintro (⟨s,h1,h2,h3⟩ | ⟨rfl,h3⟩)
  ·exact ⟨s,by omega,h2,h3⟩
  exact ⟨k,by omega,rfl,h3⟩
 rintro ⟨s,h1,h2,h3⟩
 by_cases e:s=k
 ·subst e;subst h2;exact .inr ⟨rfl,h3⟩
 exact .inl ⟨s,by omega,h2,h3⟩
theorem QL.succ {f:Nat->Nat} {B:List Bool} {k d:Nat} {a:Ar}:QL f B (k+1) d a↔QL f B k d a\/(d=f k/\ZE (B.getD k false) (f k)=some a):=by
 unfold QL ZE
 constructor
 ·rintro ⟨h0,s,h1,h2,h3⟩
  by_cases e:s=k
  ·subst e;subst h2;exact .inr ⟨rfl,by rw [if_pos h3,h0]⟩
  exact .inl ⟨h0,s,by omega,h2,h3⟩
 rintro (⟨h0,s,h1,h2,h3⟩ | ⟨rfl,h3⟩)
 ·exact ⟨h0,s,by omega,h2,h3⟩
 split at h3
 rotate_left
 ·cases h3
 rename_i hb
 injection h3 with h3
 exact ⟨h3.symm,k,by omega,rfl,hb⟩
theorem ai {m d:Nat}:(List.replicate m ([]:List Ar)).getD d []=[]:=by
 rw [gE2,List.getElem?_replicate];split <;> rfl
theorem aA {f:Nat->Nat} {m d:Nat} {R:List (List Ar)} {a:Ar} {n:Nat} (hf:∀ v,v<n->f v<m):∀ k,k<=n->(a∈(R0 f m R k).getD d []↔QA R f k d a):=by
 intro k
 induction k with
 | zero=>intro _;rw [R0,ai];simp [QA]
 | succ k ih=>
  intro hk
  rw [R0,az _ _ (by rw [Y0];exact hf k hk),ih (by omega),QA.succ]
theorem aB {L:List Bool} {d:Nat} {o:List (List Ar)} {a:Ar}:∀ k,k<=o.length->(a∈(Z2 L o k).getD d []↔a∈o.getD d []\/(d<k/\L.getD d false=true/\a=(0,(d:Int)))):=by
 intro k
 induction k with
 | zero=>intro _;simp [Z2]
 | succ k ih=>
  intro hk
  rw [Z2,ZN (by rw [ZM];exact hk),ih (by omega)]
  unfold ZE
  constructor
  rotate_left
  ·rintro (h | ⟨h1,h2,h3⟩)
   ·exact .inl (.inl h)
   by_cases e:d=k
   ·subst e;exact .inr ⟨rfl,by rw [if_pos h2,h3]⟩
   exact .inl (.inr ⟨by omega,h2,h3⟩)
  rintro ((h | ⟨h1,h2,h3⟩) | ⟨rfl,h2⟩)
  ·exact .inl h
  ·exact .inr ⟨by omega,h2,h3⟩
  split at h2
  ·rename_i hb;injection h2 with h2;exact .inr ⟨by omega,hb,h2.symm⟩
  cases h2
theorem ZK (f:Nat->Nat) (m:Nat) (B:List Bool) (k:Nat):(c9 f m B k).length=m:=by simp [c9]
theorem ab {f:Nat->Nat} {m:Nat} {B:List Bool} {k d:Nat} (hd:d<m):(c9 f m B k).getD d false=(List.range k).any fun s=>decide (f s=d) && B.getD s false:=by
 simp [c9,gE2,hd]
theorem bc {f:Nat->Nat} {m:Nat} {B:List Bool} {k:Nat} (hf:f k<m):(c9 f m B k).set (f k) ((c9 f m B k).getD (f k) false || B.getD k false)=c9 f m B (k+1):=by
 have hl:=ZK f m B k
 refine List.ext_getElem (by simp [c9]) fun i h1 h2=>?_
 rw [ZK] at h2
 have e2:(c9 f m B (k+1))[i]'(by rw [ZK];exact h2)=((List.range (k+1)).any fun s=>decide (f s=i) && B.getD s false):=by simp [c9]
 rw [e2,List.range_succ,List.any_append]
 by_cases e:f k=i
 ·subst e
  rw [List.getElem_set_self,ab hf]
  simp
 rw [List.getElem_set_ne e]
 have e3:(c9 f m B k)[i]'(by rw [ZK];exact h2)=((List.range k).any fun s=>decide (f s=i) && B.getD s false):=by simp [c9]
 rw [e3]
 simp [e]
theorem bB {R:List (List Ar)} {C:List Int} {B:List Bool} (h:Zy C R.length=true) {d:Nat} {a:Ar}:a∈(qR R C B).getD d []↔QA R (bY C) R.length d a\/QL (bY C) B R.length d a:=by
 obtain ⟨h1,h2,h3,_⟩:=Y2 h
 have hf:∀ v,v<R.length->bY C v<bZ C:=fun v hv=>(h3 v hv).1
 unfold qR
 rw [aB _ (by rw [Y0];exact Nat.le_refl _),aA hf _ (Nat.le_refl _)]
 refine or_congr Iff.rfl ?_
 unfold QL
 constructor
 ·rintro ⟨g1,g2,g3⟩
  rw [ab g1,List.any_eq_true] at g2
  obtain ⟨s,hs,hb⟩:=g2
  simp only [Bool.and_eq_true,decide_eq_true_eq] at hb
  exact ⟨g3,s,List.mem_range.1 hs,hb.1,hb.2⟩
 rintro ⟨g3,s,hs,rfl,hb⟩
 refine ⟨hf s hs,?_,g3⟩
 rw [ab (hf s hs),List.any_eq_true]
 exact ⟨s,List.mem_range.2 hs,by simp only [Bool.and_eq_true,decide_eq_true_eq];exact ⟨trivial,hb⟩⟩
theorem ZO (x:Option Ar) (c:Nat) (o:List (List Ar)):Bw (R1 x c o)<=Bw o+1:=by
 cases x with
 | none=>simp [R1]
 | some b=>
  unfold R1
  by_cases h:c<o.length
  ·simp only;rw [aK o h];exact Nat.le_refl _
  simp only;rw [List.set_eq_of_length_le (by omega)];omega
theorem ZP (f:Nat->Nat) (c:Nat) (row:List Ar):∀ o,Bw (X0 f c o row)<=Bw o+row.length:=by
 induction row with
 | nil=>intro o;exact Nat.le_refl _
 | cons a r ih=>
  intro o
  have h1:=ih (R1 (ZD f c a) c o)
  have h2:=ZO (ZD f c a) c o
  show Bw (X0 f c (R1 (ZD f c a) c o) r)<=_
  simp only [List.length_cons];omega
theorem ZQ (f:Nat->Nat) (m:Nat) (R:List (List Ar)):∀ k,k<=R.length->Bw (R0 f m R k)<=Bw (R.take k):=by
 intro k
 induction k with
 | zero=>intro _;rw [R0,ac];omega
 | succ k ih=>
  intro hk
  have h1:=ih (by omega)
  have h2:=Cj (R:=R) (k:=k) hk
  have h3:=ZP f (f k) (R.getD k []) (R0 f m R k)
  have h4:R.getD k []=R[k]:=by rw [gE2,gE1 hk];rfl
  rw [R0]
  rw [h4] at h3 ⊢
  omega
theorem ZW (L:List Bool) (o:List (List Ar)):∀ k,Bw (Z2 L o k)<=Bw o+k:=by
 intro k
 induction k with
 | zero=>exact Nat.le_refl _
 | succ k ih=>
  have:=ZO (ZE (L.getD k false) k) k (Z2 L o k)
  rw [Z2];omega
theorem QA.bd {R:List (List Ar)} {f:Nat->Nat} {m k d:Nat} {a:Ar} (hlo:BE R=true) (hk:k<=R.length) (hf:∀ v,v<R.length->f v<m) (h:QA R f k d a):0<=a.1/\a.1<=1025/\0<=a.2/\a.2<(m:Int):=by
 obtain ⟨s,h1,h2,b,hb,h3⟩:=h
 have hs:s<R.length:=by omega
 rw [gE2,gE1 hs] at hb
 have hbd:=(gE4 hlo).2.2.2 _ (gE6 hs) b hb
 unfold ZD at h3
 split at h3
 rotate_left
 ·cases h3
 injection h3 with h3
 subst h3
 have:=hf b.2.toNat (by omega)
 simp only;omega
theorem bC {R:List (List Ar)} {C:List Int} {B:List Bool} (hlo:BE R=true) (h:Zy C R.length=true):(qR R C B).length=bZ C/\(∀ r∈qR R C B,∀ a∈r,0<=a.1/\a.1<=1025/\0<=a.2/\a.2<((qR R C B).length:Int))/\Bw (qR R C B)<=Bw R+R.length:=by
 obtain ⟨h1,h2,h3,_⟩:=Y2 h
 have hf:∀ v,v<R.length->bY C v<bZ C:=fun v hv=>(h3 v hv).1
 have hl:(qR R C B).length=bZ C:=by unfold qR;rw [ZM,Y0]
 refine ⟨hl,fun r hr a ha=>?_,?_⟩
 rotate_left
 ·have a1:=ZW (c9 (bY C) (bZ C) B R.length) (R0 (bY C) (bZ C) R R.length) (bZ C)
  have a2:=ZQ (bY C) (bZ C) R R.length (Nat.le_refl _)
  rw [List.take_length] at a2
  unfold qR
  omega
 obtain ⟨d,hd,rfl⟩:=List.getElem_of_mem hr
 have hd2:d<bZ C:=by omega
 have ha2:a∈(qR R C B).getD d []:=by rw [gE2,gE1 hd];exact ha
 rw [hl]
 rcases (bB h).1 ha2 with q | ⟨q,_⟩
 ·exact q.bd hlo (Nat.le_refl _) hf
 subst q;simp only;omega
def RowN (R:List (List Ar)) (num:List Int) (s:Int) (r:List Ar):Prop:=
 r=Cq ((Cq (R.getD s.toNat [])).map fun a=>(a.1,num.getD a.2.toNat 0))/\∀ a∈R.getD s.toNat [],∃ x,num[a.2.toNat]?=some x/\0<=x
theorem RowN.keep {R:List (List Ar)} {num num2:List Int} {s:Int} {r:List Ar} (h:RowN R num s r) (hk:∀ (t:Nat) (x:Int),num[t]?=some x->0<=x->num2[t]?=some x):RowN R num2 s r:=by
 obtain ⟨h1,h2⟩:=h
 refine ⟨?_,fun a ha=>?_⟩
 rotate_left
 ·obtain ⟨x,hx,hp⟩:=h2 a ha
  exact ⟨x,hk _ x hx hp,hp⟩
 rw [h1]
 congr 1
 refine List.map_congr_left fun a ha=>?_
 obtain ⟨x,hx,hp⟩:=h2 a ((C8 _ a).1 ha)
 rw [gE2,gE2,hx,hk _ x hx hp]
theorem YX {R:List (List Ar)} (hb:∀ r∈R,∀ a∈r,0<=a.2/\a.2<(R.length:Int)):∀ (f i:Nat) (num old:List Int) (out:List (List Ar)),NumOk R.length num old->NumInj num old->NumSur num old->i=out.length->i<=old.length->R.length<=f+i->
  (∀ (j:Nat) (s:Int) (r:List Ar),old[j]?=some s->out[j]?=some r->RowN R num s r)->
  ∃ num',NumOk R.length num' (F2 R f i num old out).2/\NumInj num' (F2 R f i num old out).2/\NumSur num' (F2 R f i num old out).2/\(F2 R f i num old out).1.length=(F2 R f i num old out).2.length/\(∀ (j:Nat) (s:Int),old[j]?=some s->(F2 R f i num old out).2[j]?=some s)/\
   ∀ (j:Nat) (s:Int) (r:List Ar),(F2 R f i num old out).2[j]?=some s->(F2 R f i num old out).1[j]?=some r->RowN R num' s r:=by
 intro f
 induction f with
 | zero=>
  intro i num old out hN hI hS hi ho hf hR
  have hle:=hN.le
  exact ⟨num,hN,hI,hS,by simp only [F2];omega,fun _ _ h=>h,hR⟩
 | succ f ih=>
  intro i num old out hN hI hS hi ho hf hR
  have hle:=hN.le
  unfold F2
  split
  ·rename_i hs
   have:=List.getElem?_eq_none_iff.1 hs
   exact ⟨num,hN,hI,hS,by simp only;omega,fun _ _ h=>h,hR⟩
  rename_i s hs
  have hs0:=hN.st s (gE9 hs)
  have hsl:s.toNat<R.length:=by omega
  have hil:=(List.getElem?_eq_some_iff.1 hs).1
  have hg:R.getD s.toNat []=R[s.toNat]:=by rw [gE2,gE1 hsl];rfl
  have hrm:=gE6 hsl
  have hq:∀ a∈Cq (R.getD s.toNat []),0<=a.2/\a.2<(num.length:Int):=fun a ha=>by
   rw [hg] at ha
   have:=hb _ hrm a ((C8 _ a).1 ha);rw [hN.len];omega
  have hN2:=NumOk.go (Cq (R.getD s.toNat [])) [] hN (by rw [<- hN.len];exact hq)
  have hn2:=LF (Cq (R.getD s.toNat [])) num old []
  rw [hn2] at hN2 ⊢
  simp only at hN2 ⊢
  have hI2:=Kl _ hq hI
  have hS2:=YK _ hq hS
  obtain ⟨hm1,hm2⟩:=PE (old:=old) _ hq
  have hgr:=YC (Cq (R.getD s.toNat [])) num old
  have hkp:∀ (t:Nat) (x:Int),num[t]?=some x->0<=x->(Eh (Cq (R.getD s.toNat [])) num old).1[t]?=some x:=fun t x h1 h2=>N3 _ (fun a ha=>(hq a ha).1) h1 h2
  have hold:∀ (j:Nat) (x:Int),old[j]?=some x->(Eh (Cq (R.getD s.toNat [])) num old).2.1[j]?=some x:=fun j x h=>Y1 _ h
  have hnew:RowN R (Eh (Cq (R.getD s.toNat [])) num old).1 s ((Eh (Cq (R.getD s.toNat [])) num old).2.2.foldl (fun acc a=>D1 a acc) []):=by
   refine ⟨?_,fun a ha=>hm2 a ((C8 _ a).2 ha)⟩
   rw [hm1];rfl
  obtain ⟨num',k1,k2,k3,k4,k5,k6⟩:=ih (i+1) _ _ (out++[(Eh (Cq (R.getD s.toNat [])) num old).2.2.foldl (fun acc a=>D1 a acc) []]) hN2 hI2 hS2 (by simp;omega) (by omega) (by omega) (fun j t r hj hr=>by
   rcases Nat.lt_or_ge j out.length with hlt | hge
   ·rw [gEa hlt] at hr
    have hj2:old[j]?=some t:=by
     have h3:=hold j old[j] (gE1 (by omega))
     rw [hj] at h3
     rw [gE1 (by omega),<- h3]
    exact (hR j t r hj2 hr).keep hkp
   ·have hje:j=i:=by
     have:=(List.getElem?_eq_some_iff.1 hr).1
     simp at this;omega
    subst hje
    rw [gEb hge,hi,Nat.sub_self] at hr
    simp at hr
    rw [hold j s hs] at hj
    injection hj with hj
    subst hj;subst hr
    exact hnew)
  exact ⟨num',k1,k2,k3,k4,fun j x h=>k5 j x (hold j x h),k6⟩
theorem YU {R:List (List Ar)} (h1:1<=R.length) (hb:∀ r∈R,∀ a∈r,0<=a.2/\a.2<(R.length:Int)):∃ num,NumOk R.length num (BT R).2/\NumInj num (BT R).2/\NumSur num (BT R).2/\(BT R).1.length=(BT R).2.length/\(BT R).2[0]?=some 0/\∀ (j:Nat) (s:Int) (r:List Ar),(BT R).2[j]?=some s->(BT R).1[j]?=some r->RowN R num s r:=by
 obtain ⟨num,k1,k2,k3,k4,k5,k6⟩:=YX hb R.length 0 _ _ [] (NumOk.start h1) (NumInj.start h1) (NumSur.start h1) rfl (by simp) (by omega) (fun j s r _ h=>by simp at h)
 exact ⟨num,k1,k2,k3,k4,k5 0 0 rfl,k6⟩
def MtK {α:Type} (A:List (List Ar)) (kA:Nat->α) (B:List (List Ar)) (kB:Nat->α):Prop:=
 ∀ s t,s<A.length->t<B.length->kA s=kB t->(Dv A s->Dv B t)/\∀ a∈(Tt A).getD s [],∃ b∈(Tt B).getD t [],b.1=a.1/\kB b.2.toNat=kA a.2.toNat
theorem YM {R:List (List Ar)} (hv:Bv R=true) (hn:R.length<=100) {s:Nat} (hs:s<R.length) {a:Ar} (h:a∈(Tt R).getD s []):0<=a.2/\a.2.toNat<R.length:=by
 have hb:=YI hv hn
 have hm:(Tt R).getD s []∈Tt R:=by
  rw [gE2,gE1 (by omega),Option.getD_some]
  exact gE6 _
 have:=(hb.2 _ hm).2 a h
 omega
theorem Zd {α:Type} {R:List (List Ar)} {k:Nat->α} (hv:Bv R=true) (hn:R.length<=100) (hk:MtK R k R k) {c:List Int} (ih:∀ s t,s<R.length->t<R.length->k s=k t->c.getD s 0=c.getD t 0) {s t:Nat} (hs:s<R.length) (ht:t<R.length) (h:k s=k t):Iy c ((Tt R).getD s []) ((Tt R).getD t [])=true:=by
 unfold Iy
 refine List.all_eq_true.2 fun a ha=>?_
 obtain ⟨b,hb,e1,e2⟩:=(hk s t hs ht h).2 a ha
 unfold LN
 refine List.any_eq_true.2 ⟨b,hb,?_⟩
 rw [e1,ih _ _ (YM hv hn ht hb).2 (YM hv hn hs ha).2 e2]
 simp
theorem MtK.le {α:Type} {R:List (List Ar)} {k:Nat->α} (hv:Bv R=true) (hn:R.length<=100) (hk:MtK R k R k) {c:List Int} (hc:DlC R c) {s t:Nat} (hs:s<R.length) (ht:t<R.length) (h:k s=k t):c.getD s 0=c.getD t 0:=by
 obtain ⟨B,hB,i,hi,-⟩:=hc
 have hb:=YI hv hn
 subst hi
 induction i generalizing s t with
 | zero=>
  show (Xv B R.length).getD s 0=(Xv B R.length).getD t 0
  rw [Jq hs,Jq ht]
  have e:B.getD s false=B.getD t false:=by
   rw [Bool.eq_iff_iff,hB.2 s hs,hB.2 t ht]
   exact ⟨(hk s t hs ht h).1,(hk t s ht hs h.symm).1⟩
  unfold Xu
  rw [e]
 | succ i ih=>
  have ih2:=fun s t hs ht h=>ih (s:=s) (t:=t) hs ht h
  have e:=(Cx (Xj (Tt R) (Xl (Tt R) (Xv B R.length) i)) (Tt R).length).eq s t (by omega) (by omega)
  refine e.2 ?_
  unfold Xj
  rw [ih hs ht h,Se.2 ⟨Zd hv hn hk ih2 hs ht h,Zd hv hn hk ih2 ht hs h.symm⟩]
theorem DlC.key {R:List (List Ar)} (hv:Bv R=true) (hn:R.length<=100) {c:List Int} (hc:DlC R c):MtK R (fun s=>c.getD s 0) R (fun s=>c.getD s 0):=by
 obtain ⟨B,hB,i,hi,hf⟩:=hc
 have hb:=YI hv hn
 intro s t hs ht h
 simp only at h ⊢
 have e:=(Cx (Xj (Tt R) c) (Tt R).length).eq s t (by omega) (by omega)
 have e0:(Xh (Xj (Tt R) c) (Tt R).length).1=c:=hf
 rw [e0] at e
 have e2:=congrArg Prod.snd (e.1 h)
 obtain ⟨c1,-⟩:=Se.1 e2
 refine ⟨fun hd=>?_,fun a ha=>?_⟩
 rotate_left
 ·obtain ⟨b,hb2,hq⟩:=List.any_eq_true.1 (List.all_eq_true.1 c1 a ha)
  simp only [Bool.and_eq_true,beq_iff_eq] at hq
  exact ⟨b,hb2,hq.1,hq.2⟩
 have hdv:∀ j,(Xl (Tt R) (Xv B R.length) j).getD s 0=(Xl (Tt R) (Xv B R.length) j).getD t 0->(Xv B R.length).getD s 0=(Xv B R.length).getD t 0:=by
  intro j
  induction j with
  | zero=>exact id
  | succ j ih=>intro q;exact ih (congrArg Prod.fst (((Cx (Xj (Tt R) (Xl (Tt R) (Xv B R.length) j)) (Tt R).length).eq s t (by omega) (by omega)).1 q))
 have q:=hdv i (by rw [<- hi];exact h)
 rw [Jq hs,Jq ht] at q
 refine (hB.2 t ht).1 ?_
 have h2:=(hB.2 s hs).2 hd
 unfold Xu at q
 rw [h2] at q
 generalize B.getD 0 false=x0 at q
 generalize B.getD t false=x1 at q ⊢
 revert q
 cases x0 <;> cases x1 <;> decide
/-! Side by side. -/
def Vw {α:Type} (Z:List (List Ar)) (k:Nat->α) (s:Nat) (X:List (List Ar)) (kX:Nat->α) (s':Nat):Prop:=
 s'<X.length/\k s=kX s'/\(Dv Z s↔Dv X s')/\(∀ a∈(Tt Z).getD s [],∃ b∈(Tt X).getD s' [],b.1=a.1/\kX b.2.toNat=k a.2.toNat)/\∀ b∈(Tt X).getD s' [],∃ a∈(Tt Z).getD s [],a.1=b.1/\k a.2.toNat=kX b.2.toNat
theorem Vw.mt {α:Type} {Z X Y:List (List Ar)} {k kX kY:Nat->α} {s t s' t':Nat} (h1:Vw Z k s X kX s') (h2:Vw Z k t Y kY t') (hm:MtK X kX Y kY) (h:k s=k t):(Dv Z s->Dv Z t)/\∀ a∈(Tt Z).getD s [],∃ b∈(Tt Z).getD t [],b.1=a.1/\k b.2.toNat=k a.2.toNat:=by
 obtain ⟨a1,a2,a3,a4,a5⟩:=h1
 obtain ⟨b1,b2,b3,b4,b5⟩:=h2
 obtain ⟨m1,m2⟩:=hm s' t' a1 b1 (by rw [<- a2,<- b2,h])
 refine ⟨fun d=>b3.2 (m1 (a3.1 d)),fun a ha=>?_⟩
 obtain ⟨x,hx,e1,e2⟩:=a4 a ha
 obtain ⟨y,hy,e3,e4⟩:=m2 x hx
 obtain ⟨z,hz,e5,e6⟩:=b5 y hy
 exact ⟨z,hz,by rw [e5,e3,e1],by rw [e6,e4,e2]⟩
theorem Ze {A R:List (List Ar)} (hz:Bv (Eo A R)=true) (hA:Bv A=true) {s:Nat} (hs:s<A.length) {a:Ar}:a∈(Tt (Eo A R)).getD s []↔a∈(Tt A).getD s []:=by
 have hlA:BE A=true:=gEg (gE4 hA).1
 have hE:=Cw true hlA
 rw [Hp hz (by rw [CF];omega),Hp hA hs]
 refine or_congr (and_congr_right fun _=>exists_congr fun u=>and_congr_right fun _=>IA hE hs) (and_congr_right fun _=>exists_congr fun t=>?_)
 rw [IA hE hs]
 refine and_congr_right fun hr=>?_
 rw [U6 (hr.lt hs hE)]
theorem Zf {A R:List (List Ar)} (hz:Bv (Eo A R)=true) (hR:Bv R=true) {s:Nat} (hs:s<R.length) {a:Ar}:a∈(Tt (Eo A R)).getD (A.length+s) []↔∃ b∈(Tt R).getD s [],a=(b.1,b.2+(A.length:Int)):=by
 have hlo:BE R=true:=gEg (gE4 hR).1
 rw [Hp hz (by rw [CF];omega)]
 constructor
 rotate_left
 ·rintro ⟨b,hb,rfl⟩
  rcases (Hp hR hs).1 hb with ⟨h0,u,hu,hr⟩ | ⟨h0,t,hr,ha⟩
  ·exact .inl ⟨h0,A.length+u,by simp only;omega,(IB hlo).2 ⟨u,rfl,hr⟩⟩
  exact .inr ⟨h0,A.length+t,(IB hlo).2 ⟨t,rfl,hr⟩,by rw [U7];exact List.mem_map.2 ⟨b,ha,rfl⟩⟩
 rintro (⟨h0,u,hu,hr0⟩ | ⟨h0,t,hr0,ha⟩)
 rotate_left
 ·obtain ⟨v,rfl,hr⟩:=(IB hlo).1 hr0
  rw [U7] at ha
  obtain ⟨b,hb,rfl⟩:=List.mem_map.1 ha
  exact ⟨b,(Hp hR hs).2 (.inr ⟨h0,v,hr,hb⟩),rfl⟩
 obtain ⟨v,rfl,hr⟩:=(IB hlo).1 hr0
 exact ⟨(0,(v:Int)),(Hp hR hs).2 (.inl ⟨rfl,v,rfl,hr⟩),by obtain ⟨e,t⟩:=a;simp only at h0 hu ⊢;subst h0;subst hu;congr 1;omega⟩
def ZF {α:Type} (n:Nat) (kA kR:Nat->α) (s:Nat):α:=if s<n then kA s else kR (s - n)
theorem MtK.both {α:Type} {A R:List (List Ar)} {kA kR:Nat->α} (hA:Bv A=true) (hR:Bv R=true) (hn:A.length+R.length<=100) (hz:Bv (Eo A R)=true) (h1:MtK A kA A kA) (h2:MtK A kA R kR) (h3:MtK R kR A kA) (h4:MtK R kR R kR):MtK (Eo A R) (ZF A.length kA kR) (Eo A R) (ZF A.length kA kR):=by
 have hlA:BE A=true:=gEg (gE4 hA).1
 have hlo:BE R=true:=gEg (gE4 hR).1
 have hE:=Cw true hlA
 have v1:∀ s,s<A.length->Vw (Eo A R) (ZF A.length kA kR) s A kA s:=fun s hs=>by
  have hk:∀ a∈(Tt A).getD s [],ZF A.length kA kR a.2.toNat=kA a.2.toNat:=fun a ha=>if_pos (YM hA (by omega) hs ha).2
  refine ⟨hs,if_pos hs,UV hE hs,fun a ha=>?_,fun b hb=>?_⟩
  rotate_left
  ·exact ⟨b,(Ze hz hA hs).2 hb,rfl,hk b hb⟩
  have ha:=(Ze hz hA hs).1 ha
  exact ⟨a,ha,rfl,(hk a ha).symm⟩
 have v2:∀ s,s<R.length->Vw (Eo A R) (ZF A.length kA kR) (A.length+s) R kR s:=fun s hs=>by
  have hk:∀ a∈(Tt R).getD s [],ZF A.length kA kR (a.2+(A.length:Int)).toNat=kR a.2.toNat:=fun a ha=>by
   have:=YM hR (by omega) hs ha
   unfold ZF
   rw [if_neg (by omega)]
   congr 1;omega
  refine ⟨hs,by unfold ZF;rw [if_neg (by omega)];congr 1;omega,UW hlo,fun a ha=>?_,fun b hb=>?_⟩
  rotate_left
  ·exact ⟨_,(Zf hz hR hs).2 ⟨b,hb,rfl⟩,rfl,hk b hb⟩
  obtain ⟨b,hb,rfl⟩:=(Zf hz hR hs).1 ha
  exact ⟨b,hb,rfl,(hk b hb).symm⟩
 have hv:∀ s,s<(Eo A R).length->s<A.length\/∃ s',s'<R.length/\s=A.length+s':=fun s hs=>by
  rw [CF] at hs
  by_cases e:s<A.length
  ·exact .inl e
  exact .inr ⟨s - A.length,by omega,by omega⟩
 intro s t hs ht h
 rcases hv s hs with hs2 | ⟨s,hs2,rfl⟩ <;> rcases hv t ht with ht2 | ⟨t,ht2,rfl⟩
 ·exact (v1 s hs2).mt (v1 t ht2) h1 h
 ·exact (v1 s hs2).mt (v2 t ht2) h2 h
 ·exact (v2 s hs2).mt (v1 t ht2) h3 h
 exact (v2 s hs2).mt (v2 t ht2) h4 h
/-! The quotient. -/
structure QuX (R X:List (List Ar)) (f kX:Nat->Nat):Prop where
 inj:∀ i j,i<X.length->j<X.length->kX i=kX j->i=j
 sur:∀ j,j<X.length->∃ s,s<R.length/\f s=kX j
 fw:∀ s j,s<R.length->j<X.length->f s=kX j->∀ b∈R.getD s [],(b.1 ≠ 0\/f b.2.toNat ≠ f s)->∃ i:Nat,i<X.length/\(b.1,(i:Int))∈X.getD j []/\kX i=f b.2.toNat
 bw:∀ j (a:Ar),j<X.length->a∈X.getD j []->∃ i:Nat,i<X.length/\a.2=(i:Int)/\((∃ s,s<R.length/\f s=kX j/\∃ b∈R.getD s [],b.1=a.1/\f b.2.toNat=kX i/\(a.1 ≠ 0\/kX i ≠ kX j))\/(a.1=0/\i=j/\∃ s,s<R.length/\f s=kX j/\Dv R s))
 lp:∀ s j,s<R.length->j<X.length->f s=kX j->Dv R s->(0,(j:Int))∈X.getD j []
section
variable {R X : List (List Ar)} {f kX : Nat -> Nat}
theorem cS (hv:Bv R=true) {s:Nat} {b:Ar} (hb:b∈R.getD s []):0<=b.2/\b.2.toNat<R.length:=by
 have hlo:=(gE4 hv).1
 have hs:s<R.length:=by
  by_cases e:s<R.length
  ·exact e
  rw [gE2,List.getElem?_eq_none (by omega)] at hb
  simp at hb
 rw [gE2,gE1 hs,Option.getD_some] at hb
 have h:=hlo.2.2.2 _ (gE6 hs) b hb
 omega
theorem QuX.path (h:QuX R X f kX) (hR:Bv R=true) (hX:Bv X=true) {s u j:Nat} (hs:s<R.length) (hj:j<X.length) (e:f s=kX j) (hr:Rc (WP true R) s u):∃ i,i<X.length/\Rc (WP true X) j i/\kX i=f u:=by
 have hE:=Cw true (gEg (gE4 hR).1:BE R=true)
 induction hr with
 | refl=>exact ⟨j,hj,.refl _,e.symm⟩
 | @tail u w hu hw ih=>
  obtain ⟨i,hi,hp,ei⟩:=ih
  have hw2:=(Gs hR).1 hw
  by_cases hc:f w=f u
  ·exact ⟨i,hi,hp,by rw [ei,hc]⟩
  obtain ⟨i2,h1,h2,h3⟩:=h.fw u i (hu.lt hs hE) hi ei.symm _ hw2 (.inr (by simpa using hc))
  exact ⟨i2,h1,hp.tail ((Gs hX).2 h2),by rw [h3];simp⟩
theorem cy (hR:Bv R=true) {P:Nat->Prop} (hP:∀ u,u<R.length->P u->∃ w v,w∈WP true R u/\Rc (WP true R) w v/\v<R.length/\P v):∀ (n u:Nat),u<R.length->P u->XH R u<=n->Dv R u:=by
 intro n
 induction n with
 | zero=>
  intro u hu _ hr
  exfalso
  have hp:0<(List.range R.length).countP fun x=>@decide (Rc (WP true R) u x) (Classical.propDecidable _):=List.countP_pos_iff.2 ⟨u,List.mem_range.2 hu,@decide_eq_true _ (Classical.propDecidable _) (Rc.refl u)⟩
  unfold XH at hr
  omega
 | succ n ih=>
  intro u hu hp hr
  obtain ⟨w,v,hw,hwv,hvl,hv⟩:=hP u hu hp
  by_cases hb:Rc (WP true R) v u
  ·exact ⟨u,.refl _,w,hw,hwv.trans hb⟩
  have huv:Rc (WP true R) u v:=(Rc.one hw).trans hwv
  have hlt:XH R v<XH R u:=IC (fun x _ hx=>@decide_eq_true _ (Classical.propDecidable _) (huv.trans (@of_decide_eq_true _ (Classical.propDecidable _) hx))) u (List.mem_range.2 hu) (@decide_eq_true _ (Classical.propDecidable _) (Rc.refl u)) (@decide_eq_false _ (Classical.propDecidable _) hb)
  obtain ⟨g,hg,hd⟩:=ih v hvl hv (by omega)
  exact ⟨g,huv.trans hg,hd⟩
theorem cL {E:Nat->List Nat} {u v:Nat} (h:Rc E u v) (hne:u ≠ v):∃ w,w∈E u/\Rc E w v:=by
 induction h with
 | refl=>exact absurd rfl hne
 | @tail a b hab hb ih=>
  by_cases e:u=a
  ·subst e;exact ⟨b,hb,.refl _⟩
  obtain ⟨w,h1,h2⟩:=ih e
  exact ⟨w,h1,h2.tail hb⟩
end
set_option maxRecDepth 100000
def Gn:List Int:=[0,0,2,3,4,2,3,1,2,5,1025]
theorem PL:∀ x∈Gn,0<=x/\x<=1025:=by decide
theorem F6:Gn.length=11:=rfl
theorem Ji:Gn.take 11=Gn:=rfl
theorem EE (T:List Int) (hT:TpOk T) (a:Nat) (ha:a<=100000000):FC Tryz.prog 27 [.a (.c (.p 0 0))] [tape T a] (fun r o=>o=[tape T (a+1)]/\∃ v:Int,r=.i v/\0<=v/\v<=1025):=by
 refine A6 Tryz.func27 rfl (by rw [Tryz.ntmps27];simp) ?_
 rw [Tryz.ntmps27]
 simp only [Bf,tape]
 (refine Wu (an @List.set_cons_zero.{0} @List.set_cons_succ.{0}) ?_;(repeat clear hK K);repeat refine kq fun K hK=>?_)
 (refine BS (Bg (r:=⟨3,1,true,A7 Gn⟩) 1 (Ab Gn) rfl (EM _) (show 0<(1:Nat) by omega)) ?_;simp only [ST.frz,A0.frz,AV.frz,C.frz,Nat.le_refl,List.set_cons_zero,List.set_cons_succ,go_sem,A4,F6,Az,Ji])
 (refine Wu (an @A4 @F6) ?_;(repeat clear hK K);repeat refine kq fun K hK=>?_)
 (refine Ai rfl ?_;intro K1 hK1;refine ct [0] (Dk T a 11 hT (by omega) (by omega)) ?_ ?_)
 ·rintro _ _ ⟨rfl,v,rfl,_⟩;rfl
 rintro _ _ ⟨rfl,v,rfl,hv⟩
 (simp only [As,Bl,tape,List.append_nil,List.nil_append,List.length_map,go_sem];refine hK1 _ ?_;clear hK1 K1)
 have hv2:v<Gn.length:=by rw [F6];omega
 (refine Wu (an @A4 (Am (gE1 hv2))) ?_;(repeat clear hK K);repeat refine kq fun K hK=>?_)
 refine WF [0] Tryz.results27 ?_
 exact ⟨_,rfl,PL _ (gE6 hv2)⟩

theorem PM (m:Nat):(List.replicate m (C.o (2,46) [])).map VX=AO (List.replicate m []):=by
 simp [AO,VX,Ao]
theorem Ng (m:Nat):OkSys 3 m (List.replicate m []):=⟨by simp,fun r hr=>by
 rw [List.mem_replicate] at hr
 rw [hr.2]
 exact ⟨by simp [SortA],by simp,by simp⟩⟩

def Kv (R:List (List Ar)):Ob:=.r ⟨25,1,false,[.t 1 (Ah R)]⟩
theorem bD (T:List Int) (hT:TpOk T) (a0 n:Nat) (ha:a0<=1000000) (hn1:1<=n) (hn:n<=20):
  FC Tryz.prog 18 [.a (.c (.p 0 0)),.i n] [tape T a0] (fun r o=>∃ a' R,o=[tape T a',Kv R]/\r=B7 R/\a'<=a0+1+7*n/\1<=R.length/\R.length<=n/\OkSys 3 R.length R):=by
 refine A6 Tryz.func18 rfl (by rw [Tryz.ntmps18];simp) ?_
 rw [Tryz.ntmps18]
 simp only [Bf,tape,Kv]
 (refine Wt ?_;(repeat clear hK K);repeat refine kq fun K hK=>?_)
 (refine Ai rfl ?_;intro K1 hK1;refine ct [0] (Dk T a0 n hT (by omega) (by omega)) ?_ ?_)
 ·rintro _ _ ⟨rfl,v,rfl,_⟩;rfl
 rintro _ _ ⟨rfl,m,rfl,hm⟩
 (simp only [As,Bl,tape,List.append_nil,List.nil_append,List.length_map,go_sem];refine hK1 _ ?_;clear hK1 K1)
 have em:(1+(m:Int)).toNat=m+1:=by omega
 (refine Wu (an @em (an @List.set_cons_zero.{0} @List.set_cons_succ.{0})) ?_;(repeat clear hK K);repeat refine kq fun K hK=>?_)
 refine Au (Cm 2 rfl) ?_
 simp only [PM,List.set_cons_zero,List.set_cons_succ]
 refine A8 (fun p:Nat × List (List Ar) × Nat=>{ tm:=[(0,.a (.c (.p 0 0))),(4,.a (.c (.p 1 0))),(5,.a (.c (.p 3 0))),(6,.i p.1)],hp:=[.r ⟨41,2,false,[.t 1 (Ab T),.v (.int .i64 p.2.2)]⟩,.r ⟨25,1,false,[.v (.slice none 0 0)]⟩,.r ⟨42,1,true,AO p.2.1⟩,.r ⟨25,1,false,[.s 2 (m+1)]⟩],n:=46,pin:=1 })
  (fun p=>p.1<=m+1/\p.2.2<=a0+1+7*p.1/\OkSys 3 (m+1) p.2.1/\∀ q r,p.1<=q->p.2.1[q]?=some r->r=[]) (fun p=>m+1 - p.1) (0,List.replicate (m+1) [],a0+1) ?_ ?_ ?_
 ·refine ⟨by simp,by simp,Ng _,fun q r _ hr=>?_⟩
  exact List.eq_of_mem_replicate (gE9 hr)
 ·exact WE
 rintro ⟨i,R,a⟩ ⟨hi,hA,hR,hE⟩ K hK
 simp only at hi hA hR hE ⊢
 (refine Wt ?_;(repeat clear hK K);repeat refine kq fun K hK=>?_)
 (refine At ?_;intro X Y hX hY;simp only [go_sem])
 refine ⟨fun h=>hX ?_,fun h=>hY ?_⟩
 rotate_left
 ·have hi1:i=m+1:=by simp at h;omega
  clear hX hY X Y
  (refine Wx ?_;repeat clear hK K)
  (refine Wu (an @List.set_cons_zero.{0} @List.set_cons_succ.{0}) ?_;(repeat clear hK K);repeat refine kq fun K hK=>?_)
  refine BS (AR 3 0 2 (m+1) (by decide) rfl rfl rfl rfl (show 0<1 by omega) (by simp only [Ay,hR.1];omega) (CZ R)) ?_
  refine BS (Cm 3 rfl) ?_
  simp only [Fi,AV.nb,A0.nb,C.nb,VX,List.map_cons,List.map_nil,List.contains_cons,List.contains_nil,List.set_cons_zero,List.set_cons_succ,go_sem]
  (repeat (first | (refine AC ?_;intro K hK) | refine Aj ?_ | refine Ad ?_ | (refine B5 rfl rfl ?_;intro K1 hK1;simp only [go_sem,List.set_cons_zero,List.set_cons_succ,C.pl,C.one,List.all_cons,List.all_nil,Bool.and_true,List.take_succ_cons,List.take_zero,List.drop_zero];(first | refine hK1 _ ?_ | refine AD (hK1 _ ?_));clear hK1 K1) | ((first | refine Aa ?_ | refine Al ?_);refine hK _ ?_;clear hK K)))
  refine WF [0,1] Tryz.results18 ?_
  exact ⟨rfl,a,R,rfl,rfl,by omega,by rw [hR.1];omega,by rw [hR.1];omega,by rw [hR.1];exact hR⟩
 have hi1:i<m+1:=by simp at h;omega
 clear hX hY X Y
 (refine Wt ?_;(repeat clear hK K);repeat refine kq fun K hK=>?_)
 (refine Ai rfl ?_;intro K1 hK1;refine ct [0] (Dk T a 4 hT (by omega) (by omega)) ?_ ?_)
 ·rintro _ _ ⟨rfl,v,rfl,_⟩;rfl
 rintro _ _ ⟨rfl,w0,rfl,hw0⟩
 (simp only [As,Bl,tape,C6,List.append_nil,List.nil_append,List.length_map,go_sem];refine hK1 _ ?_;clear hK1 K1)
 (refine Wt ?_;(repeat clear hK K);repeat refine kq fun K hK=>?_)
 refine A8 (fun p:Nat × List (List Ar) × Nat=>{ tm:=[(0,.a (.c (.p 0 0))),(4,.a (.c (.p 1 0))),(5,.a (.c (.p 3 0))),(6,.i i),(7,.i p.1)],hp:=[.r ⟨41,2,false,[.t 1 (Ab T),.v (.int .i64 p.2.2)]⟩,.r ⟨25,1,false,[.v (.slice none 0 0)]⟩,.r ⟨42,1,true,AO p.2.1⟩,.r ⟨25,1,false,[.s 2 (m+1)]⟩],n:=46,pin:=1 })
  (fun p=>p.1<=3/\p.2.2+2*p.1<=a+7/\OkSys 3 (m+1) p.2.1/\(∀ r,p.2.1[i]?=some r->r.length+p.1<=3)/\∀ q r,i+1<=q->p.2.1[q]?=some r->r=[]) (fun p=>p.1) (w0,R,a+1) ?_ ?_ ?_
 ·refine ⟨by simp only;omega,by simp only;omega,hR,fun r hr=>?_,fun q r hq hr=>hE q r (by omega) hr⟩
  rw [hE i r (Nat.le_refl _) hr];simp;omega
 ·exact WE
 rintro ⟨w,R2,a2⟩ ⟨hw,hA2,hR2,hi2,hE2⟩ K hK
 simp only at hw hA2 hR2 hi2 hE2 ⊢
 have hl2:i<R2.length:=by rw [hR2.1];exact hi1
 have hg2:=gE1 hl2
 have hrow:=hR2.2 _ (gE6 hl2)
 (refine Wt ?_;(repeat clear hK K);repeat refine kq fun K hK=>?_)
 (refine At ?_;intro X Y hX hY;simp only [go_sem])
 refine ⟨fun h=>hX ?_,fun h=>hY ?_⟩
 rotate_left
 ·have hw0:w=0:=by simp at h;omega
  clear hX hY X Y
  (refine Wx ?_;repeat clear hK K)
  (refine Wt ?_;(repeat clear hK K);repeat refine kq fun K hK=>?_)
  refine WD ?_
  refine hK _ (i+1,R2,a2) ⟨by simp only;omega,by simp only;omega,hR2,fun q r hq hr=>hE2 q r hq hr⟩ (by simp only;omega) ?_
  exact WE
 have hw1:0<w:=by simpa using h
 clear hX hY X Y
 (refine Wt ?_;(repeat clear hK K);repeat refine kq fun K hK=>?_)
 refine Bz [0] [(0,0,0),(2,0,0),(3,0,0),(5,0,0),(8,0,0),(10,0,0),(11,0,0),(1,1,18),(4,1,16),(6,0,0),(7,1,16),(12,1,14),(13,0,0),(9,2,0),(14,2,0),(15,0,0),(16,2,0),(17,0,0),(18,2,0)] (by kernel_rfl) (by kernel_rfl) (by intro c st h;simp [Ae,AF,VT] at h) ?_
 (repeat (first | (refine Wd rfl rfl rfl ?_;intro K1 hK1;simp only [undef,W3,go_sem,Ay,BM hg2];first | (refine hK1 _ ?_;clear hK1 K1) | (refine AD (hK1 _ ?_);clear hK1 K1)) | (refine We rfl rfl rfl rfl rfl rfl rfl rfl rfl ?_;intro K1 hK1;simp only [undef,W3,go_sem,Ay,BM hg2];first | (refine hK1 _ ?_;clear hK1 K1) | (refine AD (hK1 _ ?_);clear hK1 K1))))
 (refine Wf rfl rfl ?_;intro K1 hK1;refine BW (ids:=[]) [0] (EE T hT a2 (by omega)) rfl rfl (by simp only [W3,go_sem]) (by kernel_rfl) rfl rfl rfl (by (simp only [W3,Em,List.map_append,List.append_nil,AV.ren,A0.ren,C.ren,idx,Dt,Dj,go_sem]) <;> rfl) (by (simp only [VS,Ob.ren,C.ren,idx,Dt,Dj,List.getD_cons_zero,List.getD_cons_succ,tape,go_sem]) <;> rfl) ?_ ?_)
 ·rintro _ _ ⟨rfl,v,rfl,_⟩;exact CB rfl
 rintro _ _ ⟨rfl,e,rfl,he⟩
 (simp only [As,Bl,tape,C6,List.append_nil,List.nil_append,List.length_map,go_sem];refine hK1 _ ?_;clear hK1 K1)
 (repeat (first | (refine Wd rfl rfl rfl ?_;intro K1 hK1;simp only [undef,W3,go_sem];first | (refine hK1 _ ?_;clear hK1 K1) | (refine AD (hK1 _ ?_);clear hK1 K1)) | (refine We rfl rfl rfl rfl rfl rfl rfl rfl rfl ?_;intro K1 hK1;simp only [undef,W3,go_sem];first | (refine hK1 _ ?_;clear hK1 K1) | (refine AD (hK1 _ ?_);clear hK1 K1))))
 (refine Wf rfl rfl ?_;intro K1 hK1;refine BW (ids:=[]) [0] (Dk T (a2+1) (m+1) hT (by omega) (by omega)) rfl rfl (by simp only [W3,go_sem]) (by kernel_rfl) rfl rfl rfl (by (simp only [W3,Em,List.map_append,List.append_nil,AV.ren,A0.ren,C.ren,idx,Dt,Dj,go_sem]) <;> rfl) (by (simp only [VS,Ob.ren,C.ren,idx,Dt,Dj,List.getD_cons_zero,List.getD_cons_succ,tape,go_sem]) <;> rfl) ?_ ?_)
 ·rintro _ _ ⟨rfl,v,rfl,_⟩;exact CB rfl
 rintro _ _ ⟨rfl,t,rfl,ht⟩
 (simp only [As,Bl,tape,C6,List.append_nil,List.nil_append,List.length_map,go_sem];refine hK1 _ ?_;clear hK1 K1)
 (repeat (first | (refine Wd rfl rfl rfl ?_;intro K1 hK1;simp only [undef,W3,go_sem];first | (refine hK1 _ ?_;clear hK1 K1) | (refine AD (hK1 _ ?_);clear hK1 K1)) | (refine We rfl rfl rfl rfl rfl rfl rfl rfl rfl ?_;intro K1 hK1;simp only [undef,W3,go_sem];first | (refine hK1 _ ?_;clear hK1 K1) | (refine AD (hK1 _ ?_);clear hK1 K1))))
 (refine Wf rfl rfl ?_;intro K1 hK1;refine AZ ?_;refine BW (ids:=[]) [] (EX R2[i] (e,(t:Int)) (by have:=hrow.2.1;omega)) rfl rfl (by simp only [W3,go_sem]) (by kernel_rfl) rfl rfl rfl (by (simp only [W3,Em,List.map_append,List.append_nil,AV.ren,A0.ren,C.ren,idx,Dt,Dj,go_sem]) <;> rfl) (by (simp only [VS,Ob.ren,C.ren,idx,Dt,Dj,List.getD_cons_zero,List.getD_cons_succ,BK,go_sem]) <;> rfl) ?_ ?_)
 ·rintro _ _ ⟨rfl,rfl⟩ i o hi hl;simp at hl
 rintro _ _ ⟨rfl,rfl⟩
 (simp only [As,Bl,BK,C6,List.append_nil,List.nil_append,List.length_map,go_sem];refine hK1 _ ?_;clear hK1 K1)
 (repeat (first | (refine Wd rfl rfl rfl ?_;intro K1 hK1;simp only [undef,W3,go_sem];first | (refine hK1 _ ?_;clear hK1 K1) | (refine AD (hK1 _ ?_);clear hK1 K1)) | (refine We rfl rfl rfl rfl rfl rfl rfl rfl rfl ?_;intro K1 hK1;simp only [undef,W3,go_sem];first | (refine hK1 _ ?_;clear hK1 K1) | (refine AD (hK1 _ ?_);clear hK1 K1))))
 refine Wg rfl rfl rfl ?_;intro K1 hK1
 refine AP rfl ?_;simp only [undef,W3,ST.put,DJ,A0.cells,Ay,List.set_cons_zero,List.set_cons_succ,EA,go_sem]
 (first | (refine hK1 _ ?_;clear hK1 K1) | (refine AD (hK1 _ ?_);clear hK1 K1))
 refine Po ⟨by simp,by simp,?_⟩
 refine hK _ ?_;clear hK K
 (refine Wt ?_;(repeat clear hK K);repeat refine kq fun K hK=>?_)
 refine WD ?_
 have hx:0<=e/\e<=1025/\0<=(t:Int)/\(t:Int)<((m+1:Nat):Int):=⟨he.1,he.2,by omega,by omega⟩
 have e1:((w:Int) - 1)=((w - 1:Nat):Int):=by omega
 have hw3:=hi2 _ hg2
 refine hK _ (w - 1,R2.set i (D1 (e,(t:Int)) R2[i]),a2+2) ⟨by simp only;omega,by simp only;omega,hR2.set ?_ i,fun r hr=>?_,fun q r hq hr=>?_⟩ (by simp only;omega) ?_
 rotate_left 2
 ·simp only at hr
  rw [gE5 (by omega)] at hr
  exact hE2 q r hq hr
 ·(refine BG ?_;simp only [Dg,go_sem,e1];try simp)
 ·exact (OkRow.ins ⟨hrow.1,Nat.le_refl _,hrow.2.2⟩ hx).le (by omega)
 simp only at hr ⊢
 rw [gEc hl2] at hr
 cases hr
 have:=DO (e,(t:Int)) R2[i]
 omega
def X4 (k:Nat):C->C
 | .o k cs=>.t k.1 cs
 | .v (.slice none 0 0)=>.t k []
 | c=>c
def X5:List Nat->List C->List C
 | k :: ks,c :: cs=>X4 k c :: X5 ks cs
 | [],c :: cs=>VX c :: X5 [] cs
 | _,[]=>[]
theorem Nh (k:Nat) (c:C):X4 k c=VX c\/(c=.v (.slice none 0 0)/\X4 k c=.t k []):=by
 unfold X4
 split
 ·exact .inl rfl
 ·exact .inr ⟨rfl,rfl⟩
 rename_i h1 h2
 refine .inl ?_
 cases c <;> first | rfl | exact absurd rfl (h1 _ _)
theorem Ni {ks:List Nat} {cs:List C} {j:Nat} {c:C} (h:(X5 ks cs)[j]?=some c):∃ c0,cs[j]?=some c0/\(c=VX c0\/∃ k,c0=.v (.slice none 0 0)/\c=.t k []):=by
 induction cs generalizing ks j with
 | nil=>cases ks <;> simp [X5] at h
 | cons x r ih=>
  cases ks with
  | nil=>
   cases j with
   | zero=>simp [X5] at h;exact ⟨x,rfl,.inl h.symm⟩
   | succ j=>simp [X5] at h;obtain ⟨c0,h1,h2⟩:=ih h;exact ⟨c0,by simpa using h1,h2⟩
  | cons k ks=>
   cases j with
   | zero=>
    simp [X5] at h
    refine ⟨x,rfl,?_⟩
    rcases Nh k x with e | ⟨e1,e2⟩
    ·exact .inl (by rw [<- h,e])
    exact .inr ⟨k,e1,by rw [<- h,e2]⟩
   | succ j=>simp [X5] at h;obtain ⟨c0,h1,h2⟩:=ih h;exact ⟨c0,by simpa using h1,h2⟩
theorem R7 {ks:List Nat} {cs:List C} {j:Nat} {k:Nat × Nat} {ts:List Tr}:(X5 ks cs)[j]? ≠ some (.o k ts):=by
 intro h
 obtain ⟨c0,_,h | ⟨_,_,h⟩⟩:=Ni h
 ·exact JP h.symm
 cases h
theorem Nj (ks:List Nat) (cs:List C):(X5 ks cs).length=cs.length:=by
 induction cs generalizing ks with
 | nil=>cases ks <;> rfl
 | cons x r ih=>cases ks <;> simp [X5,ih]
theorem Nk {s:ST} (i:Nat) (ks:List Nat) {r:Row} (hi:s.hp[i]?=some (.r r)):Le s { s with hp:=s.hp.set i (.r { r with cells:=X5 ks r.cells }) }:=by
 rintro M0 w0 a w ⟨g,hpp,hR⟩
 have hlt:i<s.hp.length:=(List.getElem?_eq_some_iff.1 hi).1
 have self:(s.hp.set i (.r { r with cells:=X5 ks r.cells }))[i]?=some (.r { r with cells:=X5 ks r.cells }):=by simp [hlt]
 have other:∀ q,q ≠ i->(s.hp.set i (.r { r with cells:=X5 ks r.cells }))[q]?=s.hp[q]?:=fun q hq=>by rw [gE5 (Ne.symm hq)]
 generalize hh:s.hp.set i (.r { r with cells:=X5 ks r.cells })=hp' at *
 have ncl:∀ j,¬ Lv hp' g (.cl i j):=by
  rintro j ⟨r2,k,cs,e1,e2,_⟩
  rw [self] at e1
  cases e1
  exact R7 e2
 have sub:∀ ℓ,Lv hp' g ℓ->Lv s.hp g ℓ:=by
  intro ℓ hl
  cases ℓ with
  | ob q=>
   by_cases hq:q=i
   ·subst hq
    rcases hl with ⟨r2,e1,e2⟩ | ⟨kv,e1⟩
    ·exact .inl ⟨r,hi,e2⟩
    rw [self] at e1;cases e1
   rcases hl with ⟨r2,e1,e2⟩ | ⟨kv,e1⟩
   ·exact .inl ⟨r2,by rw [<- other q hq];exact e1,e2⟩
   exact .inr ⟨kv,by rw [<- other q hq];exact e1⟩
  | cl q j=>
   by_cases hq:q=i
   ·subst hq;exact absurd hl (ncl j)
   obtain ⟨r2,k,cs,e1,e2,e3⟩:=hl
   exact ⟨r2,k,cs,by rw [<- other q hq];exact e1,e2,e3⟩
 have ow:∀ b,Ow hp' g b->Ow s.hp g b:=fun b ho=>ho.imp (fun h=>h) (fun ⟨ℓ,hl,e⟩=>⟨ℓ,sub ℓ hl,e⟩)
 have hm:Mo g s.hp w g hp' w (fun _=>True):=by
  refine ⟨fun q hq=>⟨?_,rfl,rfl⟩,fun b _ ho=>ow b ho,Nat.le_refl _,fun _ _ _=>rfl,fun q _ hq r2 j k cs e1 e2=>?_⟩
  ·by_cases e:q=i
   ·subst e;exact ⟨_,self,rfl⟩
   obtain ⟨o,h1,h2⟩:=hq
   exact ⟨o,by rw [other q e];exact h1,h2⟩
  by_cases e:q=i
  rotate_left
  ·exact ⟨r2,by rw [<- other q e];exact e1,e2,fun _=>rfl⟩
  subst e
  rw [self] at e1
  cases e1
  exact absurd e2 R7
 have hr:=hR.hr
 refine ⟨g,⟨by show s.pin<=hp'.length;rw [<- hh];simpa using hpp.1,hpp.2⟩,hR.mo hm ?_ (fun ℓ hl=>hR.new ℓ (sub ℓ hl)) hR.fp⟩
 refine ⟨hr.ml,fun ℓ hl=>hr.md ℓ (sub ℓ hl),fun ℓ ℓ' h1 h2=>hr.inj ℓ ℓ' (sub ℓ h1) (sub ℓ' h2),fun q r2 e1=>?_,fun q kv e1=>?_,hm.gl hr.gl⟩
 rotate_left
 ·by_cases e:q=i
  ·subst e;rw [self] at e1;cases e1
  rw [other q e] at e1
  exact MpR.mo hm e1 (hr.mp q kv e1) rfl
 by_cases e:q=i
 rotate_left
 ·rw [other q e] at e1
  exact RowR.mo hm e1 (hr.row q r2 e1) (fun _=>rfl) (fun _ _ _ _ _=>⟨rfl,rfl⟩)
 subst e
 rw [self] at e1
 cases e1
 rcases hr.row q r hi with ⟨k1,k2⟩ | ⟨k1,k2,arr,k3,k4,k5,k6,k7⟩
 ·exact .inl ⟨k1,by simp [k2,X5]⟩
 refine .inr ⟨k1,fun h1 h2=>k2 h1 (List.length_eq_zero_iff.1 (by rw [<- Nj ks];exact List.length_eq_zero_iff.2 h2)),arr,k3,by simpa [Nj] using k4,k5,k6,fun j c hj=>?_⟩
 obtain ⟨c0,hc0,hcc⟩:=Ni hj
 obtain ⟨u,u1,u2⟩:=k7 j c0 hc0
 refine ⟨u,u1,?_⟩
 rcases hcc with rfl | ⟨k,rfl,rfl⟩
 rotate_left
 ·have hu:u=.slice none 0 0:=u2
  rw [hu]
  exact Rd.e _ _ _
 cases c0 with
 | o k cs=>exact DK (t:=.l k.1 cs) (fun b _ ho=>ow b ho) hr hi ncl sub hc0 (.inl rfl) u2
 | _=>exact CellR.mo hm u2 (fun k cs hc=>by cases hc)
theorem Jj {s:ST} (i j id:Nat) {r:Row} {e0 k0:Nat} (hne:i ≠ id) (hi:s.hp[i]?=some (.r r)) (hj:r.cells[j]?=some (.v (.slice none 0 0))) (hid:s.hp[id]?=some (.r ⟨e0,k0,true,[]⟩)):Le s { s with hp:=s.hp.set i (.r { r with cells:=r.cells.set j (.s id 0) }) }:=by
 rintro M0 w0 a w ⟨g,hpp,hR⟩
 have hlt:i<s.hp.length:=(List.getElem?_eq_some_iff.1 hi).1
 have hjl:j<r.cells.length:=(List.getElem?_eq_some_iff.1 hj).1
 have self:(s.hp.set i (.r { r with cells:=r.cells.set j (.s id 0) }))[i]?=some (.r { r with cells:=r.cells.set j (.s id 0) }):=by simp [hlt]
 have other:∀ q,q ≠ i->(s.hp.set i (.r { r with cells:=r.cells.set j (.s id 0) }))[q]?=s.hp[q]?:=fun q hq=>by rw [gE5 (Ne.symm hq)]
 have cel:∀ q c,(r.cells.set j (.s id 0))[q]?=some c->(q=j/\c=.s id 0)\/(q ≠ j/\r.cells[q]?=some c):=by
  intro q c hq
  by_cases e:q=j
  ·subst e;rw [gEc hjl] at hq;cases hq;exact .inl ⟨rfl,rfl⟩
  rw [gE5 (Ne.symm e)] at hq;exact .inr ⟨e,hq⟩
 generalize hh:s.hp.set i (.r { r with cells:=r.cells.set j (.s id 0) })=hp' at *
 have sub:∀ ℓ,Lv hp' g ℓ->Lv s.hp g ℓ:=by
  intro ℓ hl
  cases ℓ with
  | ob q=>
   by_cases hq:q=i
   ·subst hq
    rcases hl with ⟨r2,e1,e2⟩ | ⟨kv,e1⟩
    ·exact .inl ⟨r,hi,e2⟩
    rw [self] at e1;cases e1
   rcases hl with ⟨r2,e1,e2⟩ | ⟨kv,e1⟩
   ·exact .inl ⟨r2,by rw [<- other q hq];exact e1,e2⟩
   exact .inr ⟨kv,by rw [<- other q hq];exact e1⟩
  | cl q j2=>
   obtain ⟨r2,k,cs,e1,e2,e3⟩:=hl
   by_cases hq:q=i
   rotate_left
   ·exact ⟨r2,k,cs,by rw [<- other q hq];exact e1,e2,e3⟩
   subst hq
   rw [self] at e1
   cases e1
   rcases cel j2 _ e2 with ⟨_,h⟩ | ⟨_,h⟩
   ·cases h
   exact ⟨r,k,cs,hi,h,e3⟩
 have ow:∀ b,Ow hp' g b->Ow s.hp g b:=fun b ho=>ho.imp (fun h=>h) (fun ⟨ℓ,hl,e⟩=>⟨ℓ,sub ℓ hl,e⟩)
 have hm:Mo g s.hp w g hp' w (fun _=>True):=by
  refine ⟨fun q hq=>⟨?_,rfl,rfl⟩,fun b _ ho=>ow b ho,Nat.le_refl _,fun _ _ _=>rfl,fun q _ hq r2 j2 k cs e1 e2=>?_⟩
  ·by_cases e:q=i
   ·subst e;exact ⟨_,self,rfl⟩
   obtain ⟨o,h1,h2⟩:=hq
   exact ⟨o,by rw [other q e];exact h1,h2⟩
  by_cases e:q=i
  rotate_left
  ·exact ⟨r2,by rw [<- other q e];exact e1,e2,fun _=>rfl⟩
  subst e
  rw [self] at e1
  cases e1
  rcases cel j2 _ e2 with ⟨_,h⟩ | ⟨_,h⟩
  ·cases h
  exact ⟨r,hi,h,fun _=>rfl⟩
 have hr:=hR.hr
 refine ⟨g,⟨by show s.pin<=hp'.length;rw [<- hh];simpa using hpp.1,hpp.2⟩,hR.mo hm ?_ (fun ℓ hl=>hR.new ℓ (sub ℓ hl)) hR.fp⟩
 refine ⟨hr.ml,fun ℓ hl=>hr.md ℓ (sub ℓ hl),fun ℓ ℓ' h1 h2=>hr.inj ℓ ℓ' (sub ℓ h1) (sub ℓ' h2),fun q r2 e1=>?_,fun q kv e1=>?_,hm.gl hr.gl⟩
 rotate_left
 ·by_cases e:q=i
  ·subst e;rw [self] at e1;cases e1
  rw [other q e] at e1
  exact MpR.mo hm e1 (hr.mp q kv e1) rfl
 by_cases e:q=i
 rotate_left
 ·rw [other q e] at e1
  exact RowR.mo hm e1 (hr.row q r2 e1) (fun _=>rfl) (fun _ _ _ _ _=>⟨rfl,rfl⟩)
 subst e
 rw [self] at e1
 cases e1
 rcases hr.row q r hi with ⟨k1,k2⟩ | ⟨k1,k2,arr,k3,k4,k5,k6,k7⟩
 ·rw [k2] at hj;simp at hj
 refine .inr ⟨k1,fun h1 h2=>k2 h1 (List.length_eq_zero_iff.1 (by rw [<- List.length_set (i:=j) (a:=C.s id 0)];exact List.length_eq_zero_iff.2 h2)),arr,k3,by simpa using k4,k5,k6,fun j2 c hj2=>?_⟩
 rcases cel j2 c hj2 with ⟨rfl,rfl⟩ | ⟨_,h⟩
 rotate_left
 ·obtain ⟨u,u1,u2⟩:=k7 j2 c h
  exact ⟨u,u1,CellR.mo hm u2 (fun k cs hc _=>⟨rfl,rfl⟩)⟩
 obtain ⟨u,u1,u2⟩:=k7 j2 _ hj
 have hu:u=.slice none 0 0:=u2
 refine ⟨u,u1,?_⟩
 have hκ:g.κ id=0:=by
  rcases hr.row id _ hid with ⟨z,_⟩ | ⟨_,z,_⟩
  ·exact z
  exact absurd rfl (z rfl)
 have hid':hp'[id]?=some (.r ⟨e0,k0,true,[]⟩):=by rw [other id (Ne.symm hne)];exact hid
 exact ⟨⟨_,hid',rfl⟩,Nat.zero_le _,none,by rw [hu,hκ],fun hn=>absurd hκ hn,by simp⟩
theorem Nl {s:ST} (e k:Nat):Le s { s with hp:=s.hp++[.r ⟨e,k,true,[]⟩] }:=by
 rintro M0 w0 a w ⟨g,hpp,hR⟩
 have hb:=hR.birth0 (w':=w) (hp':=s.hp++[.r ⟨e,k,true,[]⟩]) (id:=s.hp.length) (r:=⟨e,k,true,[]⟩) Cv (BU _) (Be _) rfl (Fp.refl _ _)
 exact ⟨_,⟨by have:=hpp.1;simp;omega,hpp.2.trans (Ds hpp.1)⟩,hb⟩
def Aw (R:List (List Ar)):List C:=R.map fun r=>C.o (2,46) (Ao r)
theorem AB (xs:List (List Ar)):(Aw xs).length=xs.length:=by simp [Aw]
theorem B8 {xs:List (List Ar)} {i:Nat} {x:List Ar} (h:xs[i]?=some x):(Aw xs)[i]?=some (.o (2,46) (Ao x)):=by simp [Aw,h]
theorem C3 (xs:List (List Ar)) (i:Nat) (x:List Ar):(Aw xs).set i (.o (2,46) (Ao x))=Aw (xs.set i x):=by simp [Aw,List.map_set]
theorem Ch (f:List Nat) (L:List (List Ar)):(Aw L).map (C.ren f)=Aw L:=by simp [Aw,C.ren,Function.comp_def]
theorem Cl (L:List (List Ar)):(Aw L).map VX=AO L:=by simp [Aw,AO,VX,Function.comp_def]
end Go.Proofs.YtjijjfkalheokaaGreatDoor
