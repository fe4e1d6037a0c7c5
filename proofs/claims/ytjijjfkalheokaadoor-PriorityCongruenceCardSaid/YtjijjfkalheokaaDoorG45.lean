/- Lemmas. -/
import Derived.Test.YtjijjfkalheokaaDoorG42
import Derived.Test.YtjijjfkalheokaaDoorG11
import Derived.Test.YtjijjfkalheokaaDoorTj1
namespace Go.Proofs.YtjijjfkalheokaaDoor
set_option linter.unusedVariables false
set_option linter.unusedSimpArgs false
open Go.RowKit
set_option maxRecDepth 100000
attribute [local go_sem] lga C.pl C.one

def UC (B:List Bool):List C:=B.map fun b=>C.v (.bool b)
theorem Lu (B:List Bool):(UC B).length=B.length:=by simp [UC]
theorem Ya {B:List Bool} {i:Nat} {b:Bool} (h:B[i]?=some b):(UC B)[i]?=some (.v (.bool b)):=by simp [UC,h]
theorem Lw (B:List Bool) (i:Nat) (b:Bool):(UC B).set i (.v (.bool b))=UC (B.set i b):=by simp [UC,List.map_set]
theorem Gp (f:List Nat) (B:List Bool):(UC B).map (C.ren f)=UC B:=by simp [UC,C.ren,Function.comp_def]
def Ri (t:Bool) (r:List Ar):List Ar:=r.filter fun a=>!t || a.1 == 0
def So (t:Bool) (R:List (List Ar)) (v:Nat):List Nat:=(Ri t (R.getD v [])).map fun a=>a.2.toNat
def Dr (B:List Bool) (u:Nat):Bool:=B.getD u false
structure Rs (E:Nat->List Nat) (n:Nat) (F:List Nat) (B:List Bool) (Q:List Nat):Prop where
 len:B.length=n
 snd:∀ u,Dr B u=true->∃ v∈F,Rc E v u
 q:∀ u∈Q,u<n/\∃ v∈F,Rc E v u
 cl:∀ u,Dr B u=true->∀ w∈E u,Dr B w=true\/w∈Q
 st:∀ v∈F,Dr B v=true\/v∈Q
variable {E : Nat -> List Nat} {n u : Nat} {F : List Nat} {B : List Bool} {Q : List Nat}
theorem Rs.start (hF:∀ v∈F,v<n):Rs E n F (List.replicate n false) F:=by
 have e:∀ u,Dr (List.replicate n false) u=false:=fun u=>by
  unfold Dr;rw [gE2,List.getElem?_replicate];split <;> rfl
 exact ⟨by simp,fun u h=>(by rw [e] at h;cases h),fun u h=>⟨hF u h,u,h,.refl _⟩,fun u h=>(by rw [e] at h;cases h),fun v h=>.inr h⟩
theorem Rs.old (h:Rs E n F B (Q++[u])) (hs:Dr B u=true):Rs E n F B Q:=by
 refine ⟨h.len,h.snd,fun w hw=>h.q w (List.mem_append_left _ hw),fun w hw x hx=>?_,fun v hv=>?_⟩
 rotate_left
 ·rcases h.st v hv with h1 | h1
  ·exact .inl h1
  rcases List.mem_append.1 h1 with h1 | h1
  ·exact .inr h1
  simp at h1;subst h1;exact .inl hs
 rcases h.cl w hw x hx with h1 | h1
 ·exact .inl h1
 rcases List.mem_append.1 h1 with h1 | h1
 ·exact .inr h1
 simp at h1;subst h1;exact .inl hs
theorem Rs.done (h:Rs E n F B []) (u:Nat):Dr B u=true↔∃ v∈F,Rc E v u:=by
 refine ⟨h.snd u,fun ⟨v,hv,hr⟩=>?_⟩
 induction hr with
 | refl=>exact (h.st v hv).resolve_right (by simp)
 | tail _ he ih=>exact (h.cl _ (ih ⟨v,hv,‹_›⟩) _ he).resolve_right (by simp)
end Go.Proofs.YtjijjfkalheokaaDoor
namespace Go.Proofs.YtjijjfkalheokaaDoor
set_option linter.unusedVariables false
set_option linter.unusedSimpArgs false

def CI (r:List Ar):List Ar:=r.foldl (fun acc a=>GR a acc) []
def AP (num old:List Int) (t:Int):List Int × List Int:=if num.getD t.toNat 0<0 then (num.set t.toNat old.length,old++[t]) else (num,old)
def F9:List Ar->List Int->List Int->List Ar->List Int × List Int × List Ar
 | [],num,old,nxt=>(num,old,nxt)
 | a :: tl,num,old,nxt=>F9 tl (AP num old a.2).1 (AP num old a.2).2 (GR (a.1,(AP num old a.2).1.getD a.2.toNat 0) nxt)
def Hs (rows:List (List Ar)):Nat->Nat->List Int->List Int->List (List Ar)->List (List Ar) × List Int
 | 0,_,_,old,out=>(out,old)
 | f+1,i,num,old,out=>match old[i]? with
  | none=>(out,old)
  | some s=>Hs rows f (i+1) (F9 (CI (rows.getD s.toNat [])) num old []).1 (F9 (CI (rows.getD s.toNat [])) num old []).2.1 (out++[(F9 (CI (rows.getD s.toNat [])) num old []).2.2])
def CG (rows:List (List Ar)):List (List Ar) × List Int:=Hs rows rows.length 0 ((List.replicate rows.length (-1)).set 0 0) [0] []

theorem Gq (r acc:List Ar) (a:Ar):a∈r.foldl (fun acc a=>GR a acc) acc↔a∈acc\/a∈r:=by
 induction r generalizing acc with
 | nil=>simp
 | cons x xs ih=>rw [List.foldl_cons,ih,Gj,List.mem_cons,or_comm (a:=a=x),or_assoc]
theorem C8 (r:List Ar) (a:Ar):a∈CI r↔a∈r:=by unfold CI;rw [Gq];simp
theorem Gr (r acc:List Ar):(r.foldl (fun acc a=>GR a acc) acc).length<=acc.length+r.length:=by
 induction r generalizing acc with
 | nil=>simp
 | cons x xs ih=>rw [List.foldl_cons,List.length_cons];have:=ih (GR x acc);have:=Nl x acc;omega
theorem Lx (r:List Ar):(CI r).length<=r.length:=by have:=Gr r [];simpa [CI] using this

structure NumOk (n:Nat) (num old:List Int):Prop where
 len:num.length=n
 rng:∀ x∈num,-1<=x/\x<n
 st:∀ s∈old,0<=s/\s<n
 cnt:old.length+num.countP (fun x=>decide (x<0))=n
theorem K9 {p:Int->Bool} {l:List Int} {i:Nat} {x y:Int} (h:l[i]?=some x) (hx:p x=true) (hy:p y=false):(l.set i y).countP p+1=l.countP p:=by
 induction l generalizing i with
 | nil=>simp at h
 | cons z zs ih=>
  cases i with
  | zero=>simp at h;subst h;simp [List.countP_cons,hx,hy]
  | succ i=>
   simp only [List.getElem?_cons_succ] at h
   have:=ih h
   simp only [List.set_cons_succ,List.countP_cons]
   omega
theorem NumOk.le {n:Nat} {num old:List Int} (h:NumOk n num old):old.length<=n:=by have:=h.cnt;omega
theorem NumOk.get {n:Nat} {num old:List Int} (h:NumOk n num old) {t:Int} (h0:0<=t) (h1:t<n):∃ x,num[t.toNat]?=some x/\num.getD t.toNat 0=x /\ -1<=x/\x<n:=by
 have hl:t.toNat<num.length:=by rw [h.len];omega
 exact ⟨num[t.toNat],gE1 hl,by simp [hl],h.rng _ (gE6 hl)⟩
theorem NumOk.one {n:Nat} {num old:List Int} (h:NumOk n num old) {t:Int} (h0:0<=t) (h1:t<n):NumOk n (AP num old t).1 (AP num old t).2:=by
 obtain ⟨x,hx,hd,hb⟩:=h.get h0 h1
 unfold AP
 rw [hd]
 split
 rotate_left
 ·exact h
 rename_i hneg
 have hc:=K9 (p:=fun x=>decide (x<0)) (y:=(old.length:Int)) hx (by simpa using hneg) (by simp)
 have hcnt:=h.cnt
 refine ⟨by simp [h.len],fun y hy=>?_,fun s hs=>?_,by simp;omega⟩
 ·rcases List.mem_or_eq_of_mem_set hy with hy | hy
  ·exact h.rng y hy
  subst hy;omega
 rcases List.mem_append.1 hs with hs | hs
 ·exact h.st s hs
 simp at hs;subst hs;exact ⟨h0,h1⟩
theorem NumOk.go {n:Nat}:∀ (r:List Ar) {num old:List Int} (nxt:List Ar),NumOk n num old->(∀ a∈r,0<=a.2/\a.2<n)->NumOk n (F9 r num old nxt).1 (F9 r num old nxt).2.1
 | [],_,_,_,h,_=>h
 | a :: tl,_,_,nxt,h,hr=>NumOk.go tl _ (h.one (hr a (by simp)).1 (hr a (by simp)).2) (fun b hb=>hr b (gEf _ hb))
theorem NumOk.start {n:Nat} (hn:0<n):NumOk n ((List.replicate n (-1)).set 0 0) [0]:=by
 obtain ⟨k,rfl⟩:∃ k,n=k+1:=⟨n - 1,by omega⟩
 refine ⟨by simp,fun x hx=>?_,fun s hs=>?_,?_⟩
 rotate_left
 ·simp at hs;subst hs;omega
 ·simp [List.replicate_succ,List.countP_replicate];omega
 rcases List.mem_or_eq_of_mem_set hx with h | h
 ·rw [(List.mem_replicate.1 h).2];omega
 subst h;omega


theorem Ka {rows:List (List Ar)} {f i:Nat} {num old:List Int} {out:List (List Ar)} (h:old.length<=i):Hs rows f i num old out=(out,old):=by
 cases f with
 | zero=>rfl
 | succ f=>simp [Hs,List.getElem?_eq_none h]
theorem Kb {rows:List (List Ar)} {n i:Nat} {num old:List Int} {out:List (List Ar)} {s:Int} {r:List Ar} (hi:i<n) (hs:old[i]?=some s) (hr:rows[s.toNat]?=some r) {row:List Ar} (hrow:row=CI r):
  Hs rows (n - i) i num old out=Hs rows (n - (i+1)) (i+1) (F9 row num old []).1 (F9 row num old []).2.1 (out++[(F9 row num old []).2.2]):=by
 obtain ⟨m,hm⟩:∃ m,n - i=m+1:=⟨n - i - 1,by omega⟩
 have hm':n - (i+1)=m:=by omega
 rw [hm,hm',Hs,hs,hrow]
 have:rows.getD s.toNat []=r:=by simp [List.getD,hr]
 simp only [this]

def CP (p:Ar):List Ar->List Ar
 | []=>[]
 | y :: ys=>if y=p then CP p ys else y :: CP y ys
def NB:List Ar->List Ar
 | []=>[]
 | x :: xs=>x :: CP x xs


theorem BN:∀ {l m:List Ar},SortA l->SortA m->(∀ a,a∈l↔a∈m)->l=m
 | [],[],_,_,_=>rfl
 | [],b :: m,_,_,h=>by have:=(h b).2 (by simp);simp at this
 | a :: l,[],_,_,h=>by have:=(h a).1 (by simp);simp at this
 | a :: l,b :: m,hl,hm,h=>by
  have hl':=List.pairwise_cons.1 hl
  have hm':=List.pairwise_cons.1 hm
  have hab:a=b:=by
   rcases List.mem_cons.1 ((h a).1 (by simp)) with e | e
   ·exact e
   ·rcases List.mem_cons.1 ((h b).2 (by simp)) with e' | e'
    ·exact e'.symm
    ·have h1:=hm'.1 a e
     have h2:=hl'.1 b e'
     rw [BA] at h1 h2;omega
  subst hab
  congr 1
  refine BN hl'.2 hm'.2 fun c=>⟨fun hc=>?_,fun hc=>?_⟩
  ·rcases List.mem_cons.1 ((h c).1 (gEf _ hc)) with e | e
   ·subst e;have:=hl'.1 c hc;rw [E3] at this;cases this
   ·exact e
  ·rcases List.mem_cons.1 ((h c).2 (gEf _ hc)) with e | e
   ·subst e;have:=hm'.1 c hc;rw [E3] at this;cases this
   ·exact e
def UD (a b:Ar):Prop:=Ut b a=false
theorem Kc (p:Ar) (l:List Ar) (a:Ar):a∈p :: CP p l↔a∈p :: l:=by
 induction l generalizing p with
 | nil=>simp [CP]
 | cons y ys ih=>
  unfold CP
  split
  ·rename_i h;subst h;rw [ih];simp
  have:=ih y
  simp only [List.mem_cons] at this ⊢
  rw [this]
theorem Gs (p:Ar) (l:List Ar) (h:(p :: l).Pairwise UD):SortA (p :: CP p l):=by
 induction l generalizing p with
 | nil=>simp [CP,SortA]
 | cons y ys ih=>
  have h1:=List.pairwise_cons.1 h
  have h2:=List.pairwise_cons.1 h1.2
  unfold CP
  split
  ·rename_i e;subst e
   exact ih _ (List.pairwise_cons.2 ⟨fun a ha=>h2.1 a ha,h2.2⟩)
  rename_i e
  have hy:=ih y h1.2
  refine List.pairwise_cons.2 ⟨fun a ha=>?_,hy⟩
  have hpy:Ut p y=true:=by
   have:=h1.1 y (by simp)
   rcases Gi p y with h | h | h
   ·exact h
   ·exact absurd h.symm e
   unfold UD at this;rw [h] at this;cases this
  rcases List.mem_cons.1 ha with rfl | ha
  ·exact hpy
  exact Cq hpy ((List.pairwise_cons.1 hy).1 a ha)
theorem AD (r:List Ar):SortA (CI r):=by
 unfold CI
 have:∀ (l acc:List Ar),SortA acc->SortA (l.foldl (fun acc a=>GR a acc) acc):=by
  intro l
  induction l with
  | nil=>intro acc h;exact h
  | cons x xs ih=>intro acc h;exact ih _ (Ld h)
 exact this r [] List.Pairwise.nil
theorem Ly {r q:List Ar} (hp:q.Perm r) (h:q.Pairwise UD):NB q=CI r:=by
 refine BN ?_ (AD r) fun a=>?_
 ·cases q with
  | nil=>exact List.Pairwise.nil
  | cons x xs=>exact Gs x xs h
 rw [C8,<- hp.mem_iff]
 cases q with
 | nil=>simp [NB]
 | cons x xs=>exact Kc x xs a
theorem Kd {r q:List Ar} (h:r.Nodup) (hp:q.Perm r) (h1:q.Pairwise UD):q=CI r:=by
 refine BN ?_ (AD r) fun a=>by rw [C8,hp.mem_iff]
 have h2:=hp.symm.nodup h
 refine (List.pairwise_iff_forall_sublist.2 ?_)
 intro a b hab
 have hle:=List.pairwise_iff_forall_sublist.1 h1 hab
 have hne:=List.pairwise_iff_forall_sublist.1 h2 hab
 rcases Gi a b with h | h | h
 ·exact h
 ·exact absurd h hne
 unfold UD at hle;rw [h] at hle;cases hle
def Ds : List Ar -> List Int -> List Int -> List Int × List Int × List Ar
 | [], num, old => (num, old, [])
 | a :: tl, num, old =>
  ((Ds tl (AP num old a.2).1 (AP num old a.2).2).1, (Ds tl (AP num old a.2).1 (AP num old a.2).2).2.1,
   (a.1, (AP num old a.2).1.getD a.2.toNat 0) :: (Ds tl (AP num old a.2).1 (AP num old a.2).2).2.2)
theorem Ke (r:List Ar) (num old:List Int) (nxt:List Ar):
  F9 r num old nxt=((Ds r num old).1,(Ds r num old).2.1,(Ds r num old).2.2.foldl (fun acc a=>GR a acc) nxt):=by
 induction r generalizing num old nxt with
 | nil=>rfl
 | cons a tl ih=>simp only [F9,Ds,ih,List.foldl_cons]
structure NumInj (num old:List Int):Prop where
 inj:∀ (t:Nat) (x:Int),num[t]?=some x->0<=x->old[x.toNat]?=some (t:Int)
theorem NumInj.one {num old:List Int} (h:NumInj num old) {t:Int} (h0:0<=t) (h1:t<num.length):NumInj (AP num old t).1 (AP num old t).2:=by
 unfold AP
 split
 rotate_left
 ·exact h
 refine ⟨fun s x hx hp=>?_⟩
 rw [List.getElem?_set] at hx
 split at hx
 ·rename_i hs
  rw [if_pos (by omega)] at hx
  injection hx with hx
  subst hx
  simp
  omega
 have:=h.inj s x hx hp
 rw [gEa (List.getElem?_eq_some_iff.1 this).1]
 exact this
theorem FR (num old:List Int) (t:Int):(AP num old t).1.length=num.length:=by unfold AP;split <;> simp
theorem Ic {num old:List Int} {t:Int} {s:Nat} {x:Int} (h0:0<=t) (hx:num[s]?=some x) (hp:0<=x):(AP num old t).1[s]?=some x:=by
 unfold AP
 split
 rotate_left
 ·exact hx
 rename_i hneg
 simp only [List.getElem?_set]
 split
 rotate_left
 ·exact hx
 rename_i hs
 subst hs
 simp [List.getD,hx] at hneg
 omega
theorem Lz {num old:List Int} {t:Int} (h0:0<=t) (h1:t<num.length):∃ x,(AP num old t).1[t.toNat]?=some x/\0<=x:=by
 unfold AP
 split
 ·exact ⟨_,by rw [List.getElem?_set,if_pos rfl,if_pos (by omega)],by omega⟩
 rename_i hneg
 have hl:t.toNat<num.length:=by omega
 refine ⟨num[t.toNat],gE1 hl,?_⟩
 simpa [List.getD,gE1 hl] using hneg
theorem LA (r:List Ar) {num old:List Int} (hr:∀ a∈r,0<=a.2) {s:Nat} {x:Int} (hx:num[s]?=some x) (hp:0<=x):(Ds r num old).1[s]?=some x:=by
 induction r generalizing num old with
 | nil=>exact hx
 | cons a tl ih=>exact ih (fun b hb=>hr b (by simp [hb])) (Ic (hr a (by simp)) hx hp)
theorem Je (r:List Ar) {num old:List Int} (hr:∀ a∈r,0<=a.2/\a.2<num.length) (h:NumInj num old):NumInj (Ds r num old).1 (Ds r num old).2.1:=by
 induction r generalizing num old with
 | nil=>exact h
 | cons a tl ih=>
  have ha:=hr a (by simp)
  exact ih (fun b hb=>by rw [FR];exact hr b (by simp [hb])) (h.one ha.1 ha.2)
theorem NC (r:List Ar) {num old:List Int} (hr:∀ a∈r,0<=a.2/\a.2<num.length):
  (Ds r num old).2.2=r.map (fun a=>(a.1,(Ds r num old).1.getD a.2.toNat 0))/\∀ a∈r,∃ x,(Ds r num old).1[a.2.toNat]?=some x/\0<=x:=by
 induction r generalizing num old with
 | nil=>exact ⟨rfl,by simp⟩
 | cons a tl ih=>
  have ha:=hr a (by simp)
  obtain ⟨i1,i2⟩:=ih (num:=(AP num old a.2).1) (old:=(AP num old a.2).2) (fun b hb=>by rw [FR];exact hr b (by simp [hb]))
  obtain ⟨x,hx,hp⟩:=Lz (old:=old) ha.1 ha.2
  have hk:=LA (old:=(AP num old a.2).2) tl (fun b hb=>(hr b (by simp [hb])).1) hx hp
  refine ⟨?_,fun b hb=>?_⟩
  ·simp only [Ds,List.map_cons]
   congr 1
   simp [List.getD,hx,hk]
  rcases List.mem_cons.1 hb with rfl | hb
  ·exact ⟨x,hk,hp⟩
  exact i2 b hb
theorem Kf (r:List Ar) {num old:List Int} (hs:SortA r) (hr:∀ a∈r,0<=a.2/\a.2<num.length) (h:NumInj num old):(Ds r num old).2.2.Nodup:=by
 obtain ⟨h1,h2⟩:=NC (old:=old) r hr
 have hi:=Je r hr h
 rw [h1,List.Nodup,List.pairwise_map]
 have hnd:r.Pairwise (· ≠ ·):=hs.imp (fun {a b} hab e=>by subst e;rw [E3] at hab;cases hab)
 refine hnd.imp_of_mem (fun {a b} ha hb hne e=>hne ?_)
 obtain ⟨x,hx,hxp⟩:=h2 a ha
 obtain ⟨y,hy,hyp⟩:=h2 b hb
 have ha':=hr a ha
 have hb':=hr b hb
 simp only [Prod.mk.injEq,List.getD,hx,hy,Option.getD_some] at e
 obtain ⟨e1,e2⟩:=e
 subst e2
 have q1:=hi.inj _ _ hx hxp
 have q2:=hi.inj _ _ hy hxp
 rw [q1] at q2
 injection q2 with q2
 rcases a with ⟨a1,a2⟩
 rcases b with ⟨b1,b2⟩
 simp only at *
 have:a2=b2:=by omega
 rw [e1,this]
theorem NumInj.start {n:Nat} (hn:0<n):NumInj ((List.replicate n (-1)).set 0 0) [0]:=⟨fun t x hx hp=>by
 rw [List.getElem?_set] at hx
 split at hx
 ·rename_i h
  subst h
  simp [hn] at hx
  subst hx;rfl
 ·rw [List.getElem?_replicate] at hx
  split at hx
  ·cases hx;omega
  ·cases hx⟩

theorem ND {tl:List Ar} {num old:List Int} {e x:Int} {tn L:Nat} (hx:num[tn]?=some x) (hneg:x<0) (hL:old.length=L):
  Ds ((e,(tn:Int)) :: tl) num old=((Ds tl (num.set tn L) (old++[(tn:Int)])).1,(Ds tl (num.set tn L) (old++[(tn:Int)])).2.1,(e,(L:Int)) :: (Ds tl (num.set tn L) (old++[(tn:Int)])).2.2):=by
 have hl:tn<num.length:=(List.getElem?_eq_some_iff.1 hx).1
 have h1:AP num old (tn:Int)=(num.set tn L,old++[(tn:Int)]):=by
  simp only [AP,Int.toNat_natCast,List.getD,hx,Option.getD_some,if_pos hneg,hL]
 simp only [Ds,h1,Int.toNat_natCast]
 simp [List.getD,hl]
theorem NE {tl:List Ar} {num old:List Int} {e x:Int} {tn:Nat} (hx:num[tn]?=some x) (hpos:¬ x<0):
  Ds ((e,(tn:Int)) :: tl) num old=((Ds tl num old).1,(Ds tl num old).2.1,(e,x) :: (Ds tl num old).2.2):=by
 have h1:AP num old (tn:Int)=(num,old):=by
  simp only [AP,Int.toNat_natCast,List.getD,hx,Option.getD_some,if_neg hpos]
 simp only [Ds,h1,Int.toNat_natCast,List.getD,hx,Option.getD_some]
def NL (R:List Int × List Int × List Ar) (ya q:List Ar) (k:Nat) (num old:List Int):Prop:=
 ya.take k++(Ds (q.drop k) num old).2.2=R.2.2/\(Ds (q.drop k) num old).1=R.1/\(Ds (q.drop k) num old).2.1=R.2.1/\ya.drop k=q.drop k
theorem NL.neg {R:List Int × List Int × List Ar} {ya q:List Ar} {k:Nat} {num old:List Int} {e x:Int} {tn L:Nat} (h:NL R ya q k num old) (hk:ya[k]?=some (e,(tn:Int))) (hx:num[tn]?=some x) (hneg:x<0) (hL:old.length=L):
  NL R (ya.set k (e,(L:Int))) q (k+1) (num.set tn L) (old++[(tn:Int)]):=by
 obtain ⟨h1,h2,h3,h4⟩:=h
 have hl:=(List.getElem?_eq_some_iff.1 hk).1
 have hd:q.drop k=(e,(tn:Int)) :: q.drop (k+1):=by
  have h5:ya.drop k=(e,(tn:Int)) :: ya.drop (k+1):=by
   rw [List.drop_eq_getElem_cons hl];congr 1
   rw [gE1 hl] at hk;exact Option.some.inj hk
  have h6:=congrArg (List.drop 1) h4
  rw [List.drop_drop,List.drop_drop] at h6
  rw [<- h4,h5,h6]
 rw [hd,ND hx hneg hL] at h1 h2 h3
 refine ⟨?_,h2,h3,?_⟩
 ·rw [<- h1,List.take_add_one,List.take_set_of_le (Nat.le_refl k)]
  simp [List.getElem?_set,hl]
 rw [List.drop_set,if_pos (by omega)]
 have h6:=congrArg (List.drop 1) h4
 rwa [List.drop_drop,List.drop_drop] at h6
theorem NL.pos {R:List Int × List Int × List Ar} {ya q:List Ar} {k:Nat} {num old:List Int} {e x:Int} {tn:Nat} (h:NL R ya q k num old) (hk:ya[k]?=some (e,(tn:Int))) (hx:num[tn]?=some x) (hpos:¬ x<0):
  NL R (ya.set k (e,x)) q (k+1) num old:=by
 obtain ⟨h1,h2,h3,h4⟩:=h
 have hl:=(List.getElem?_eq_some_iff.1 hk).1
 have hd:q.drop k=(e,(tn:Int)) :: q.drop (k+1):=by
  have h5:ya.drop k=(e,(tn:Int)) :: ya.drop (k+1):=by
   rw [List.drop_eq_getElem_cons hl];congr 1
   rw [gE1 hl] at hk;exact Option.some.inj hk
  have h6:=congrArg (List.drop 1) h4
  rw [List.drop_drop,List.drop_drop] at h6
  rw [<- h4,h5,h6]
 rw [hd,NE hx hpos] at h1 h2 h3
 refine ⟨?_,h2,h3,?_⟩
 ·rw [<- h1,List.take_add_one,List.take_set_of_le (Nat.le_refl k)]
  simp [List.getElem?_set,hl]
 rw [List.drop_set,if_pos (by omega)]
 have h6:=congrArg (List.drop 1) h4
 rwa [List.drop_drop,List.drop_drop] at h6


def UE (f:Nat->Nat) (c:Nat) (o:List (List Ar)) (a:Ar):List (List Ar):=o.set c (o.getD c []++[(a.1,(f a.2.toNat:Int))])
def YK (f:Nat->Nat) (c:Nat) (o:List (List Ar)) (row:List Ar):List (List Ar):=row.foldl (UE f c) o
theorem PD (f:Nat->Nat) (c:Nat) (o:List (List Ar)) (a:Ar):(UE f c o a).length=o.length:=by simp [UE]
theorem Rc.lt {E:Nat->List Nat} {n u v:Nat} (h:Rc E u v) (hu:u<n) (hE:∀ x,x<n->∀ y∈E x,y<n):v<n:=by
 induction h with
 | refl=>exact hu
 | tail _ he ih=>exact hE _ ih _ he
theorem Ce {R:List (List Ar)} (t:Bool) (hv:Br R=true):∀ x,x<R.length->∀ y∈Uy t R x,y<R.length:=by
 intro x hx y hy
 unfold Uy at hy
 rw [gE2,gE1 hx,Option.getD_some] at hy
 obtain ⟨a,ha,rfl⟩:=List.mem_map.1 hy
 have h1:a∈R[x]:=by
  unfold Bm at ha
  split at ha
  ·exact (List.takeWhile_sublist _).subset ha
  exact ha
 have h2:=(gE4 hv).2.2.2 _ (gE6 hx) a h1
 omega
theorem XG (o:List (List Ar)) {c:Nat} (h:c<o.length) (x:Ar):BP (o.set c (o.getD c []++[x]))=BP o+1:=by
 induction o generalizing c with
 | nil=>simp at h
 | cons a r ih=>
  cases c with
  | zero=>simp [BP];omega
  | succ c=>
   have:=ih (c:=c) (by simpa using h)
   simp only [List.set_cons_succ,List.getD_cons_succ]
   simp only [BP,List.map_cons,List.sum_cons] at this ⊢
   omega
theorem Wv (o:List (List Ar)) (c:Nat):(o.getD c []).length<=BP o:=by
 induction o generalizing c with
 | nil=>simp
 | cons a r ih=>
  cases c with
  | zero=>simp [BP]
  | succ c=>
   have:=ih c
   simp only [List.getD_cons_succ]
   simp only [BP,List.map_cons,List.sum_cons] at this ⊢
   omega
theorem XH (m:Nat):BP (List.replicate m [])=0:=by
 unfold BP
 rw [List.map_replicate,List.sum_replicate_nat];simp
def TlP (m:Nat) (o:List (List Ar)):Prop:=∀ r∈o,∀ a∈r,0<=a.1/\a.1<=1025/\0<=a.2/\a.2<(m:Int)
theorem TlP.one {f:Nat->Nat} {m c:Nat} {o:List (List Ar)} {a:Ar} (h:TlP m o) (ha:0<=a.1/\a.1<=1025) (hf:f a.2.toNat<m):TlP m (UE f c o a):=by
 intro r hr b hb
 rcases List.mem_or_eq_of_mem_set hr with h1 | h1
 ·exact h r h1 b hb
 subst h1
 rcases List.mem_append.1 hb with h2 | h2
 rotate_left
 ·simp at h2;subst h2
  exact ⟨ha.1,ha.2,by simp only;omega,by simp only;omega⟩
 rw [gE2] at h2
 rcases Nat.lt_or_ge c o.length with h3 | h3
 rotate_left
 ·rw [List.getElem?_eq_none h3] at h2;simp at h2
 rw [gE1 h3,Option.getD_some] at h2
 exact h _ (gE6 h3) b h2
theorem Kg {r:List Ar} (hs:SortA r) (h0:∀ a∈r,0<=a.1) (t:Bool):Ri t r=Bm t r:=by
 cases t with
 | false=>unfold Ri Bm;simp
 | true=>
  unfold Ri Bm
  rw [if_pos rfl]
  simp only [Bool.not_true,Bool.false_or]
  induction r with
  | nil=>rfl
  | cons a r ih=>
   have hs2:=List.pairwise_cons.1 hs
   by_cases h:(a.1 == 0)=true
   ·rw [List.filter_cons,if_pos h,List.takeWhile_cons,if_pos h,ih hs2.2 fun b hb=>h0 b (gEf _ hb)]
   rw [List.filter_cons,if_neg h,List.takeWhile_cons,if_neg h]
   refine List.filter_eq_nil_iff.2 fun b hb=>?_
   have h1:=hs2.1 b hb
   rw [BA] at h1
   have h2:=h0 a List.mem_cons_self
   have h3:a.1 ≠ 0:=fun e=>h (by simp [e])
   have:b.1 ≠ 0:=by omega
   simpa using this
theorem Rj {R:List (List Ar)} (t:Bool) (hv:Bg R=true):So t R=Uy t R:=by
 funext v
 unfold So Uy
 rcases Nat.lt_or_ge v R.length with h | h
 rotate_left
 ·rw [gE2,List.getElem?_eq_none h,Option.getD_none]
  cases t <;> rfl
 rw [gE2,gE1 h,Option.getD_some]
 have h2:=gE4 hv
 rw [Kg (h2.2 _ (gE6 h)) fun a ha=>(h2.1.2.2.2 _ (gE6 h) a ha).1]
theorem Least.uniq {E:Nat->List Nat} {v:Nat} {x y:Int} (h1:Least E v x) (h2:Least E v y):x=y:=by
 obtain ⟨m,a1,a2,a3,a4⟩:=h1
 obtain ⟨k,b1,b2,b3,b4⟩:=h2
 have:=a4 k b2 b3
 have:=b4 m a2 a3
 omega
open Go.RowKit
set_option maxRecDepth 100000
attribute [local go_sem] lga C.pl C.one
def AG (L:List (List Int)):List C:=L.map fun r=>C.o (1,3) (Af r)
theorem B8 (L:List (List Int)):(AG L).length=L.length:=by simp [AG]
theorem E7 (L:List (List Int)) (i:Nat) (x:List Int):(AG L).set i (.o (1,3) (Af x))=AG (L.set i x):=by simp [AG,List.map_set]
theorem Ct (f:List Nat) (L:List (List Int)):(AG L).map (C.ren f)=AG L:=by simp [AG,C.ren,Function.comp_def]
def RowOk (E:Nat->List Nat) (n j:Nat) (L:List Int):Prop:=∃ B:List Bool,B.length=n/\(∀ u,Dr B u=true↔Rc E j u)/\L=((List.range n).filter (Dr B)).map Int.ofNat
theorem RowOk.mem {E:Nat->List Nat} {n j:Nat} {L:List Int} (h:RowOk E n j L) {u:Nat} (hu:u<n):(u:Int)∈L↔Rc E j u:=by
 obtain ⟨B,_,h2,rfl⟩:=h
 rw [ED,List.mem_filter,List.mem_range,h2]
 exact ⟨fun h=>h.2,fun h=>⟨hu,h⟩⟩
theorem RowOk.len {E:Nat->List Nat} {n j:Nat} {L:List Int} (h:RowOk E n j L):L.length<=n:=by
 obtain ⟨B,_,h2,rfl⟩:=h
 rw [List.length_map]
 have:=List.length_filter_le (Dr B) (List.range n)
 simpa using this
def Dv (R:List (List Ar)) (s:Nat):Prop:=∃ g,Rc (Uy true R) s g/\∃ w,w∈Uy true R g/\Rc (Uy true R) w g
def UF (s:Nat) (o:List (List Int)) (a:Ar):List (List Int):=o.set a.2.toNat (o.getD a.2.toNat []++[(s:Int)])
def D9 (s:Nat) (o:List (List Int)) (row:List Ar):List (List Int):=row.foldl (UF s) o
def UG (R:List (List Ar)):Nat->List (List Int)
 | 0=>List.replicate R.length []
 | k+1=>D9 k (UG R k) (Bm true (R.getD k []))
def KF (o:List (List Int)):Nat:=(o.map List.length).sum
theorem Id (s:Nat) (o:List (List Int)) (a:Ar):(UF s o a).length=o.length:=by simp [UF]
theorem Ht (s:Nat) (row:List Ar):∀ o,(D9 s o row).length=o.length:=by
 induction row with
 | nil=>intro o;rfl
 | cons a r ih=>intro o;show (D9 s (UF s o a) r).length=_;rw [ih,Id]
theorem Fa (R:List (List Ar)) (k:Nat):(UG R k).length=R.length:=by
 induction k with
 | zero=>simp [UG]
 | succ k ih=>rw [UG,Ht,ih]
theorem Ki (s:Nat) (o:List (List Int)) (row:List Ar) (a:Ar):D9 s o (row++[a])=UF s (D9 s o row) a:=by unfold D9;rw [List.foldl_append];rfl
theorem NF (o:List (List Int)) {c:Nat} (h:c<o.length) (x:Int):KF (o.set c (o.getD c []++[x]))=KF o+1:=by
 induction o generalizing c with
 | nil=>simp at h
 | cons y r ih=>
  cases c with
  | zero=>simp [KF];omega
  | succ c=>
   have:=ih (c:=c) (by simpa using h)
   simp only [List.set_cons_succ,List.getD_cons_succ]
   simp only [KF,List.map_cons,List.sum_cons] at this ⊢
   omega
theorem Jf (o:List (List Int)) (c:Nat):(o.getD c []).length<=KF o:=by
 induction o generalizing c with
 | nil=>simp
 | cons y r ih=>
  cases c with
  | zero=>simp [KF]
  | succ c=>
   have:=ih c
   simp only [List.getD_cons_succ]
   simp only [KF,List.map_cons,List.sum_cons] at this ⊢
   omega
theorem LB (s:Nat) (row:List Ar):∀ o:List (List Int),(∀ a∈row,a.2.toNat<o.length)->KF (D9 s o row)=KF o+row.length:=by
 induction row with
 | nil=>intro o _;rfl
 | cons a r ih=>
  intro o h
  show KF (D9 s (UF s o a) r)=_
  rw [ih _ (by rw [Id];exact fun b hb=>h b (gEf _ hb))]
  unfold UF
  rw [NF o (h a (by simp))]
  simp only [List.length_cons];omega
theorem PE {s t:Nat} {o:List (List Int)} {a:Ar} {x:Int} (h:a.2.toNat<o.length):x∈(UF s o a).getD t []↔x∈o.getD t []\/(a.2.toNat=t/\x=(s:Int)):=by
 unfold UF
 rw [gE2]
 by_cases e:a.2.toNat=t
 rotate_left
 ·rw [gE5 e,<- gE2]
  simp [e]
 subst e
 rw [gEc h,Option.getD_some,List.mem_append]
 simp
theorem LC {s t:Nat} {x:Int}:∀ (row:List Ar) (o:List (List Int)),(∀ a∈row,a.2.toNat<o.length)->(x∈(D9 s o row).getD t []↔x∈o.getD t []\/(x=(s:Int)/\t∈row.map fun a=>a.2.toNat)):=by
 intro row
 induction row with
 | nil=>intro o _;simp [D9]
 | cons a r ih=>
  intro o h
  show x∈(D9 s (UF s o a) r).getD t []↔_
  rw [ih _ (by rw [Id];exact fun b hb=>h b (gEf _ hb)),PE (h a (by simp))]
  simp only [List.map_cons,List.mem_cons]
  constructor
  rotate_left
  ·rintro (h | ⟨h1,h2 | h2⟩)
   ·exact .inl (.inl h)
   ·exact .inl (.inr ⟨h2.symm,h1⟩)
   exact .inr ⟨h1,h2⟩
  rintro ((h | ⟨h1,h2⟩) | ⟨h1,h2⟩)
  ·exact .inl h
  ·exact .inr ⟨h2,.inl h1.symm⟩
  exact .inr ⟨h1,.inr h2⟩
theorem LD {t:Bool} {r:List Ar}:∀ a∈Bm t r,a∈r:=fun a ha=>by
 unfold Bm at ha
 split at ha
 ·exact (List.takeWhile_sublist _).subset ha
 ·exact ha
theorem Fb (t:Bool) (r:List Ar):(Bm t r).length<=r.length:=by
 unfold Bm
 split
 ·exact (List.takeWhile_sublist _).length_le
 exact Nat.le_refl _
theorem Hu {R:List (List Ar)} (hlo:Br R=true) {k:Nat}:∀ a∈Bm true (R.getD k []),0<=a.2/\a.2.toNat<R.length:=fun a ha=>by
 have h1:=LD a ha
 rcases Nat.lt_or_ge k R.length with h | h
 ·rw [gE2,gE1 h] at h1
  have:=(gE4 hlo).2.2.2 _ (gE6 h) a h1
  omega
 ·rw [gE2,List.getElem?_eq_none h] at h1;simp at h1
theorem PF {R:List (List Ar)} (hlo:Br R=true) {t:Nat} {x:Int}:∀ k,x∈(UG R k).getD t []↔∃ s,s<k/\x=(s:Int)/\t∈Uy true R s:=by
 intro k
 induction k with
 | zero=>
  simp only [UG,gE2,List.getElem?_replicate]
  split <;> simp
 | succ k ih=>
  rw [UG,LC _ _ (by rw [Fa];exact fun a ha=>(Hu hlo a ha).2),ih]
  constructor
  ·rintro (⟨s,h1,h2,h3⟩ | ⟨h1,h2⟩)
   ·exact ⟨s,by omega,h2,h3⟩
   exact ⟨k,by omega,h1,h2⟩
  rintro ⟨s,h1,h2,h3⟩
  by_cases e:s=k
  ·subst e;exact .inr ⟨h2,h3⟩
  exact .inl ⟨s,by omega,h2,h3⟩
theorem Jg {R:List (List Ar)} (hlo:Br R=true):∀ k,k<=R.length->KF (UG R k)<=BP (R.take k):=by
 intro k
 induction k with
 | zero=>intro _;simp [UG,KF,BP]
 | succ k ih=>
  intro hk
  have h1:=ih (by omega)
  have h2:=Cr (R:=R) (k:=k) hk
  have h3:=Fb true (R.getD k [])
  have h4:R.getD k []=R[k]:=by rw [gE2,gE1 hk];rfl
  rw [UG,LB _ _ _ (by rw [Fa];exact fun a ha=>(Hu hlo a ha).2)]
  rw [h4] at h3 ⊢
  omega
structure Bq (E:Nat->List Nat) (n:Nat) (G:Nat->Prop) (O:List Int) (Q:List Nat):Prop where
 len:O.length=n
 lt:∀ q∈Q,q<n
 nd:Q.Nodup
 iff:∀ s,s<n->(0<=Ux O (-1) s↔s∈Q)
 hi:∀ s,Ux O (-1) s<=(Q.length:Int)
 rc:∀ q∈Q,∃ g,g<n/\G g/\Rc E q g
section
variable {E : Nat -> List Nat} {n : Nat} {G : Nat -> Prop} {O : List Int} {Q : List Nat}
theorem Bq.qlen (h:Bq E n G O Q):Q.length<=n:=by
 have:=h.nd.length_le_of_subset (l₂:=List.range n) fun q hq=>List.mem_range.2 (h.lt q hq)
 simpa using this
theorem Bq.start (E:Nat->List Nat) (n:Nat) (G:Nat->Prop):Bq E n G (List.replicate n (-1)) []:=by
 refine ⟨by simp,by simp,List.nodup_nil,fun s hs=>?_,fun s=>?_,by simp⟩
 ·rw [BB (by simpa using hs)];simp
 unfold Ux
 rw [List.getElem?_replicate]
 split <;> simp
theorem Bq.push (h:Bq E n G O Q) {s:Nat} (hs:s<n) (hq:s ∉ Q) {v:Int} (h0:0<=v) (h1:v<=(Q.length:Int)+1) (hr:∃ g,g<n/\G g/\Rc E s g):Bq E n G (O.set s v) (Q++[s]):=by
 have hl:=h.len
 refine ⟨by simp [hl],fun q hq=>?_,?_,fun t ht=>?_,fun t=>?_,fun q hq=>?_⟩
 rotate_left 4
 ·rcases List.mem_append.1 hq with h2 | h2
  ·exact h.rc q h2
  simp at h2;subst h2;exact hr
 ·rcases List.mem_append.1 hq with h2 | h2
  ·exact h.lt q h2
  simp at h2;subst h2;exact hs
 ·rw [List.nodup_append]
  exact ⟨h.nd,by simp,fun a ha b hb=>by simp at hb;subst hb;intro e;subst e;exact hq ha⟩
 ·rw [CO (by omega)]
  unfold upd
  split
  ·rename_i e;subst e;simp [h0]
  rename_i e;rw [h.iff t ht];simp [e]
 rw [CO (by omega)]
 unfold upd
 simp only [List.length_append,List.length_singleton]
 split
 ·omega
 have:=h.hi t;omega
theorem Bq.done (h:Bq E n G O Q) (hE:∀ x,x<n->∀ y∈E x,y<n) (hg:∀ g,g<n->G g->g∈Q) (hc:∀ q∈Q,∀ p,p<n->q∈E p->p∈Q) {s:Nat} (hs:s<n):0<=Ux O (-1) s↔∃ g,g<n/\G g/\Rc E s g:=by
 rw [h.iff s hs]
 constructor
 ·exact h.rc s
 rintro ⟨g,h1,h2,h3⟩
 have key:∀ x,Rc E s x->x∈Q->s∈Q:=by
  intro x hx
  induction hx with
  | refl=>exact id
  | tail hv hw ih=>exact fun hq=>ih (hc _ hq _ (hv.lt hs hE) hw)
 exact key g h3 (hg g h1 h2)
end
def UH (D:List Int) (s:Nat) (row:List Ar):Bool:=row.any fun a=>decide (D.getD a.2.toNat 0=D.getD s 0)
def UI (R:List (List Ar)) (D:List Int) (k:Nat):List Bool:=(List.range k).map fun s=>UH D s (Bm true (R.getD s []))
theorem E8 (R:List (List Ar)) (D:List Int) (k:Nat):(UI R D k).length=k:=by simp [UI]
theorem NG (D:List Int) (s:Nat) (row:List Ar) (a:Ar):UH D s (row++[a])=(UH D s row || decide (D.getD a.2.toNat 0=D.getD s 0)):=by simp [UH]
theorem LE {R:List (List Ar)} {D:List Int} (hlo:Br R=true) (hD:D.length=R.length) (hL:∀ v,v<R.length->Least (Uy true R) v (Ux D (-1) v)) {g:Nat} (hg:g<R.length):(UI R D R.length).getD g false=true↔∃ w,w∈Uy true R g/\Rc (Uy true R) w g:=by
 have e1:(UI R D R.length).getD g false=UH D g (Bm true (R.getD g [])):=by simp [UI,gE2,hg]
 have hE:=Ce true hlo
 have hd:∀ v,v<R.length->D.getD v 0=Ux D (-1) v:=fun v hv=>by rw [BB (by omega),gE2,gE1 (by omega)];rfl
 rw [e1]
 unfold UH
 rw [List.any_eq_true]
 simp only [decide_eq_true_eq]
 constructor
 ·rintro ⟨a,ha,e⟩
  have hw:a.2.toNat∈Uy true R g:=List.mem_map.2 ⟨a,ha,rfl⟩
  have hwl:=hE g hg _ hw
  rw [hd _ hwl,hd _ hg] at e
  obtain ⟨x,ex,p1,p2,_⟩:=hL _ hwl
  obtain ⟨y,ey,q1,q2,_⟩:=hL _ hg
  have:x=y:=by omega
  subst this
  exact ⟨_,hw,p1.trans q2⟩
 rintro ⟨w,hw,hr⟩
 obtain ⟨a,ha,rfl⟩:=List.mem_map.1 hw
 refine ⟨a,ha,?_⟩
 have hwl:=hE g hg _ hw
 rw [hd _ hwl,hd _ hg]
 obtain ⟨x,ex,p1,p2,p3⟩:=hL _ hwl
 obtain ⟨y,ey,q1,q2,q3⟩:=hL _ hg
 have hgw:Rc (Uy true R) g a.2.toNat:=.one hw
 have l1:=p3 y (hr.trans q1) (q2.trans hgw)
 have l2:=q3 x (hgw.trans p1) (p2.trans hr)
 omega
def DvL (R:List (List Ar)) (B:List Bool):Prop:=B.length=R.length/\∀ s,s<R.length->(B.getD s false=true↔Dv R s)
theorem DvL.uniq {R:List (List Ar)} {A B:List Bool} (h1:DvL R A) (h2:DvL R B):A=B:=by
 refine List.ext_getElem (by rw [h1.1,h2.1]) fun i hi hj=>?_
 have a:=h1.2 i (by have:=h1.1;omega)
 have b:=h2.2 i (by have:=h1.1;omega)
 rw [gE2,gE1 hi,Option.getD_some] at a
 rw [gE2,gE1 hj,Option.getD_some] at b
 rw [Bool.eq_iff_iff,a,b]
abbrev Ed:=Nat × Nat
def Vd (f:Nat->Nat) (s:Nat) (a:Ar):Option Ed:=if a.1=0/\f s ≠ f a.2.toNat then some (f s,f a.2.toNat) else none
def Ve (f:Nat->Nat) (s:Nat) (row:List Ar):List Ed:=row.filterMap (Vd f s)
def Vf (f:Nat->Nat) (R:List (List Ar)) (k:Nat):List Ed:=(List.range k).flatMap fun s=>Ve f s (R.getD s [])
theorem NQ (f:Nat->Nat) (s:Nat) (row:List Ar) (a:Ar):Ve f s (row++[a])=Ve f s row++(Vd f s a).toList:=by
 unfold Ve
 rw [List.filterMap_append]
 cases h:Vd f s a <;> simp [h]
theorem Jv (f:Nat->Nat) (R:List (List Ar)) (k:Nat):Vf f R (k+1)=Vf f R k++Ve f k (R.getD k []):=by simp [Vf,List.range_succ]
theorem Ec {f:Nat->Nat} {R:List (List Ar)} {k:Nat} {e:Ed}:e∈Vf f R k↔∃ s,s<k/\∃ a∈R.getD s [],a.1=0/\f s ≠ f a.2.toNat/\e=(f s,f a.2.toNat):=by
 unfold Vf Ve
 simp only [List.mem_flatMap,List.mem_range,List.mem_filterMap]
 constructor
 rotate_left
 ·rintro ⟨s,hs,a,ha,h1,h2,rfl⟩
  exact ⟨s,hs,a,ha,by unfold Vd;rw [if_pos ⟨h1,h2⟩]⟩
 rintro ⟨s,hs,a,ha,h⟩
 unfold Vd at h
 split at h
 rotate_left
 ·cases h
 rename_i hc
 injection h with h
 exact ⟨s,hs,a,ha,hc.1,hc.2,h.symm⟩
theorem LZ (f:Nat->Nat) (R:List (List Ar)):∀ k,k<=R.length->(Vf f R k).length<=BP (R.take k):=by
 intro k
 induction k with
 | zero=>intro _;simp [Vf,BP]
 | succ k ih=>
  intro hk
  have h1:=ih (by omega)
  have h2:=Cr (R:=R) (k:=k) hk
  have h3:R.getD k []=R[k]:=by rw [gE2,gE1 hk];rfl
  have h4:=List.length_filterMap_le (Vd f k) R[k]
  rw [Jv,List.length_append,h3]
  unfold Ve
  omega
def Vg (E:List Ed) (c:Nat):Nat:=E.countP fun e=>e.1 == c
def Vh (n:Nat) (E:List Ed):List Int:=(List.range n).map fun c=>(Vg E c:Int)
def Vi (E:List Ed) (t:Nat):List Nat:=(E.filter fun e=>e.2 == t).map (·.1)
def Dx (n:Nat) (E:List Ed):List (List Int):=(List.range n).map fun t=>(Vi E t).map Int.ofNat
theorem Fe (n:Nat) (E:List Ed):(Vh n E).length=n:=by simp [Vh]
theorem Gx {n:Nat} {E:List Ed} {c:Nat} (h:c<n):(Vh n E)[c]?=some (Vg E c:Int):=by simp [Vh,h]
theorem EF (n:Nat) (E:List Ed):(Dx n E).length=n:=by simp [Dx]
theorem Jw {n:Nat} {E:List Ed} {t:Nat} (h:t<n):(Dx n E)[t]?=some ((Vi E t).map Int.ofNat):=by simp [Dx,h]
theorem NR (E:List Ed) (c t d:Nat):Vg (E++[(c,t)]) d=Vg E d+if c=d then 1 else 0:=by
 unfold Vg
 rw [List.countP_append]
 by_cases h:c=d <;> simp [h]
theorem NS {n:Nat} {E:List Ed} {c t:Nat} (h:c<n):(Vh n E).set c ((Vg E c:Int)+1)=Vh n (E++[(c,t)]):=by
 refine List.ext_getElem (by simp [Vh]) fun i h1 h2=>?_
 rw [Fe] at h2
 have e2:(Vh n (E++[(c,t)]))[i]'(by rw [Fe];exact h2)=(Vg (E++[(c,t)]) i:Int):=by simp [Vh]
 rw [e2,NR,List.getElem_set]
 by_cases e:c=i
 ·subst e;simp
 rw [if_neg e,if_neg e];simp [Vh]
theorem NT (E:List Ed) (c t d:Nat):Vi (E++[(c,t)]) d=Vi E d++if t=d then [c] else []:=by
 unfold Vi
 rw [List.filter_append,List.map_append]
 by_cases h:t=d <;> simp [h]
theorem M1 {n:Nat} {E:List Ed} {c t:Nat} (h:t<n):(Dx n E).set t ((Vi E t).map Int.ofNat++[(c:Int)])=Dx n (E++[(c,t)]):=by
 refine List.ext_getElem (by simp [Dx]) fun i h1 h2=>?_
 rw [EF] at h2
 have e2:(Dx n (E++[(c,t)]))[i]'(by rw [EF];exact h2)=(Vi (E++[(c,t)]) i).map Int.ofNat:=by simp [Dx]
 rw [e2,NT,List.getElem_set]
 by_cases e:t=i
 ·subst e;simp
 rw [if_neg e,if_neg e];simp [Dx]
theorem M2 (E:List Ed) (t:Nat):(Vi E t).length<=E.length:=by
 unfold Vi;rw [List.length_map];exact List.length_filter_le _ _
theorem OW (E:List Ed) (c:Nat):Vg E c<=E.length:=List.countP_le_length
def Vj (E:List Ed) (P:List Nat) (c:Nat):Nat:=E.countP fun e=>e.1 == c && decide (e.2∈P)
theorem OX (E:List Ed) (P:List Nat) (c:Nat):Vj E P c<=Vg E c:=List.countP_mono_left fun e _ h=>by simp only [Bool.and_eq_true] at h;exact h.1
theorem Jx {E:List Ed} {P:List Nat} {q:Nat} (h:q ∉ P) (c:Nat):Vj E (P++[q]) c=Vj E P c+(Vi E q).countP (· == c):=by
 unfold Vj Vi
 rw [List.countP_map,List.countP_filter]
 induction E with
 | nil=>rfl
 | cons e r ih=>
  simp only [List.countP_cons,ih]
  by_cases h1:e.1=c
  rotate_left
  ·simp [h1]
  by_cases h2:e.2=q
  rotate_left
  ·by_cases h3:e.2∈P <;> simp [h1,h2,h3];omega
  have h3:e.2 ∉ P:=by rw [h2];exact h
  simp [h1,h2,h];omega
theorem PY (E:List Ed) (c:Nat):Vj E [] c=0:=by simp [Vj]
theorem DQ {γ:Type} {p q:γ->Bool}:∀ {l:List γ},(∀ x∈l,p x=true->q x=true)->l.countP p=l.countP q->∀ x∈l,q x=true->p x=true
 | [],_,_,x,hx,_=>by simp at hx
 | a :: r,h,e,x,hx,hq=>by
  have hle:=List.countP_mono_left (p:=p) (q:=q) (l:=r) fun y hy=>h y (gEf _ hy)
  rw [List.countP_cons,List.countP_cons] at e
  have ha:=h a (by simp)
  rcases List.mem_cons.1 hx with rfl | hx
  ·cases hp:p x with
   | true=>rfl
   | false=>rw [hp,hq] at e;simp at e;omega
  ·refine DQ (fun y hy=>h y (gEf _ hy)) ?_ x hx hq
   cases hp:p a with
   | true=>rw [hp,ha hp] at e;simp at e;exact e
   | false=>
    rw [hp] at e
    cases hqa:q a with
    | true=>rw [hqa] at e;simp at e;omega
    | false=>rw [hqa] at e;simpa using e
theorem NU {E:List Ed} {P:List Nat} {c:Nat} (h:Vj E P c=Vg E c):∀ e∈E,e.1=c->e.2∈P:=by
 intro e he h1
 have:=DQ (p:=fun e:Ed=>e.1 == c && decide (e.2∈P)) (q:=fun e:Ed=>e.1 == c) (l:=E) (fun x _ hx=>by simp only [Bool.and_eq_true] at hx;exact hx.1) h e he (by simpa using h1)
 simp only [Bool.and_eq_true,decide_eq_true_eq] at this
 exact this.2
structure Kh (E:List Ed) (n:Nat) (f:Nat->Nat) (i m:Nat) (Q:List Nat) (W:List Int):Prop where
 len:W.length=n
 wt:∀ c,c<n->W[c]?=some (((Vg E c:Nat):Int) - (Vj E (Q.take i) c:Nat) - (((Vi E (Q.getD i 0)).take m).countP (· == c):Nat))
 nd:Q.Nodup
 rep:∀ c∈Q,c<n/\f c=c
 zero:∀ c,c<n->f c=c->(c∈Q↔W[c]?=some 0)
 topo:∀ (j c:Nat),Q[j]?=some c->∀ e∈E,e.1=c->∃ j',j'<j/\Q[j']?=some e.2
section
variable {E : List Ed} {n : Nat} {f : Nat -> Nat} {i m : Nat} {Q : List Nat} {W : List Int}
theorem Kh.qlen (h:Kh E n f i m Q W):Q.length<=n:=by
 have:=h.nd.length_le_of_subset (l₂:=List.range n) fun q hq=>List.mem_range.2 (h.rep q hq).1
 simpa using this
theorem Kh.step (h:Kh E n f i m Q W) (hi:i<Q.length) (hE:∀ e∈E,e.1<n/\f e.1=e.1) {c:Nat} (hc:(Vi E (Q.getD i 0))[m]?=some c):
  c<n/\f c=c/\∃ w:Int,W[c]?=some w/\1<=w/\w<=Vg E c/\(w ≠ 1->Kh E n f i (m+1) Q (W.set c (w - 1)))/\(w=1->Kh E n f i (m+1) (Q++[c]) (W.set c (w - 1))):=by
 have hqi:Q[i]?=some (Q.getD i 0):=by rw [gE2,gE1 hi];rfl
 have hwt:=h.wt
 generalize hq:Q.getD i 0=q at *
 have hmem:c∈Vi E q:=gE9 hc
 have hce:∃ e∈E,e.2=q/\e.1=c:=by
  obtain ⟨e,he,h1⟩:=List.mem_map.1 hmem
  have:=List.mem_filter.1 he
  exact ⟨e,this.1,by simpa using this.2,h1⟩
 obtain ⟨e0,he0,he1,he2⟩:=hce
 have hcn:=hE e0 he0
 rw [he2] at hcn
 obtain ⟨hc1,hc2⟩:=hcn
 have hml:=(List.getElem?_eq_some_iff.1 hc).1
 have hcv:=(List.getElem?_eq_some_iff.1 hc).2
 have hqn:q ∉ Q.take i:=fun hin=>by
  obtain ⟨j,hj,hj2⟩:=List.mem_take_iff_getElem.1 hin
  have hji:j<i:=by have:=List.length_take_le i Q;omega
  have e1:Q[j]=Q[i]:=by rw [hj2,(List.getElem?_eq_some_iff.1 hqi).2]
  exact List.pairwise_iff_getElem.1 h.nd j i (by omega) hi hji e1
 have htk:Q.take (i+1)=Q.take i++[q]:=by rw [gE8 hi,(List.getElem?_eq_some_iff.1 hqi).2]
 have hsn:=Jx (E:=E) hqn
 have hle:=fun d=>OX E (Q.take (i+1)) d
 rw [htk] at hle
 have htm:(Vi E q).take (m+1)=(Vi E q).take m++[c]:=by rw [gE8 hml,hcv]
 have hcnt:∀ d,((Vi E q).take (m+1)).countP (· == d)=((Vi E q).take m).countP (· == d)+if c=d then 1 else 0:=fun d=>by
  rw [htm,List.countP_append]
  by_cases e:c=d <;> simp [e]
 have hsub:∀ d k,((Vi E q).take k).countP (· == d)<=(Vi E q).countP (· == d):=fun d k=>(List.take_sublist k _).countP_le
 have hw:=hwt c hc1
 have hb1:=hcnt c
 rw [if_pos rfl] at hb1
 have hb2:=hsub c (m+1)
 have hb3:=hle c
 rw [hsn] at hb3
 refine ⟨hc1,hc2,_,hw,by omega,by omega,fun hw1=>?_,fun hw1=>?_⟩
 ·refine ⟨by simp [h.len],fun d hd=>?_,h.nd,h.rep,fun d hd hd2=>?_,h.topo⟩
  ·rw [hq,List.getElem?_set,hcnt d]
   by_cases e:c=d
   rotate_left
   ·rw [if_neg e,if_neg e,hwt d hd,Nat.add_zero]
   subst e
   rw [if_pos rfl,if_pos (by rw [h.len];exact hc1),if_pos rfl]
   congr 1;omega
  rw [List.getElem?_set]
  by_cases e:c=d
  rotate_left
  ·rw [if_neg e];exact h.zero d hd hd2
  subst e
  rw [if_pos rfl,if_pos (by rw [h.len];exact hc1),h.zero c hd hd2,hw]
  constructor
  ·intro h0;injection h0 with h0;omega
  intro h0;injection h0 with h0;omega
 have hcq:c ∉ Q:=fun hin=>by
  have:=(h.zero c hc1 hc2).1 hin
  rw [hw] at this
  injection this with this
  omega
 have htk2:(Q++[c]).take i=Q.take i:=List.take_append_of_le_length (by omega)
 have hgq:(Q++[c]).getD i 0=q:=by rw [gE2,gEa hi,hqi];rfl
 refine ⟨by simp [h.len],fun d hd=>?_,?_,fun d hd=>?_,fun d hd hd2=>?_,fun j d hj e he h1=>?_⟩
 ·rw [htk2,hgq,List.getElem?_set,hcnt d]
  by_cases e:c=d
  rotate_left
  ·rw [if_neg e,if_neg e,hwt d hd,Nat.add_zero]
  subst e
  rw [if_pos rfl,if_pos (by rw [h.len];exact hc1),if_pos rfl]
  congr 1;omega
 ·rw [List.nodup_append]
  exact ⟨h.nd,by simp,fun a ha b hb=>by simp at hb;subst hb;intro e;subst e;exact hcq ha⟩
 ·rcases List.mem_append.1 hd with h1 | h1
  ·exact h.rep d h1
  simp at h1;subst h1;exact ⟨hc1,hc2⟩
 ·rw [List.getElem?_set,List.mem_append,List.mem_singleton]
  by_cases e:c=d
  rotate_left
  ·rw [if_neg e,<- h.zero d hd hd2]
   exact ⟨fun h1=>h1.elim id fun h2=>absurd h2.symm e,.inl⟩
  subst e
  rw [if_pos rfl,if_pos (by rw [h.len];exact hc1)]
  exact ⟨fun _=>by congr 1;omega,fun _=>.inr rfl⟩
 rcases Nat.lt_or_ge j Q.length with hl | hl
 ·rw [gEa hl] at hj
  obtain ⟨j',a1,a2⟩:=h.topo j d hj e he h1
  exact ⟨j',a1,by rw [gEa (List.getElem?_eq_some_iff.1 a2).1];exact a2⟩
 rw [gEb hl] at hj
 have hj0:j=Q.length:=by
  have:=(List.getElem?_eq_some_iff.1 hj).1
  simp at this;omega
 subst hj0
 simp at hj
 subst hj
 have hfull:Vj E (Q.take i++[q]) c=Vg E c:=by rw [hsn];omega
 have hin:=NU hfull e he h1
 rw [<- htk] at hin
 obtain ⟨j',hj',hj2⟩:=List.mem_take_iff_getElem.1 hin
 exact ⟨j',by omega,by rw [gEa (by omega),gE1 (by omega),hj2]⟩
theorem Kh.next (h:Kh E n f i m Q W) (hi:i<Q.length) (hm:(Vi E (Q.getD i 0)).length<=m):Kh E n f (i+1) 0 Q W:=by
 have hqi:Q[i]?=some (Q.getD i 0):=by rw [gE2,gE1 hi];rfl
 refine ⟨h.len,fun c hc=>?_,h.nd,h.rep,h.zero,h.topo⟩
 have hqn:Q.getD i 0 ∉ Q.take i:=fun hin=>by
  obtain ⟨j,hj,hj2⟩:=List.mem_take_iff_getElem.1 hin
  have hji:j<i:=by have:=List.length_take_le i Q;omega
  have e1:Q[j]=Q[i]:=by rw [hj2,(List.getElem?_eq_some_iff.1 hqi).2]
  exact List.pairwise_iff_getElem.1 h.nd j i (by omega) hi hji e1
 have htk:Q.take (i+1)=Q.take i++[Q.getD i 0]:=by rw [gE8 hi,(List.getElem?_eq_some_iff.1 hqi).2]
 rw [h.wt c hc,htk,Jx hqn,gE7 hm]
 congr 1
 simp only [List.take_zero,List.countP_nil]
 omega
end
def Gy (E:List Ed) (n:Nat) (f:Nat->Nat) (Q:List Nat):Prop:=Q.Nodup/\(∀ c,c∈Q↔c<n/\f c=c)/\∀ (j c:Nat),Q[j]?=some c->∀ e∈E,e.1=c->∃ j',j'<j/\Q[j']?=some e.2
theorem Kh.done {E:List Ed} {n:Nat} {f:Nat->Nat} {Q:List Nat} {W:List Int} (h:Kh E n f Q.length 0 Q W) (rk:Nat->Nat) (hE:∀ e∈E,e.2<n/\f e.2=e.2/\rk e.2<rk e.1):Gy E n f Q:=by
 refine ⟨h.nd,fun c=>⟨h.rep c,?_⟩,h.topo⟩
 have key:∀ k c,rk c<=k->c<n->f c=c->c∈Q:=by
  intro k
  induction k with
  | zero=>
   intro c hk hc hf
   rw [h.zero c hc hf,h.wt c hc,List.take_length]
   have h0:Vg E c=0:=by
    unfold Vg
    rw [List.countP_eq_zero]
    intro e he h1
    have:=(hE e he).2.2
    have h2:e.1=c:=by simpa using h1
    rw [h2] at this;omega
   have h1:=OX E Q c
   rw [List.take_zero,List.countP_nil]
   congr 1;omega
  | succ k ih=>
   intro c hk hc hf
   rw [h.zero c hc hf,h.wt c hc,List.take_length]
   have hall:∀ e∈E,e.1=c->e.2∈Q:=fun e he h1=>by
    obtain ⟨a1,a2,a3⟩:=hE e he
    rw [h1] at a3
    exact ih e.2 (by omega) a1 a2
   have h1:Vj E Q c=Vg E c:=by
    unfold Vj Vg
    refine List.countP_congr fun e he=>?_
    simp only [Bool.and_eq_true,decide_eq_true_eq,beq_iff_eq]
    exact ⟨fun h=>h.1,fun h=>⟨h,hall e he h⟩⟩
   rw [h1,List.take_zero,List.countP_nil]
   congr 1;omega
 exact fun ⟨h1,h2⟩=>key _ c (Nat.le_refl _) h1 h2
def Vk (n:Nat) (r:List Ar):List Ar:=r.map fun a=>(a.1,a.2+(n:Int))
def Vl (n:Nat) (R:List (List Ar)):List (List Ar):=R.map (Vk n)
def Dy (A R:List (List Ar)):List (List Ar):=A++Vl A.length R
theorem Ca (n:Nat) (r:List Ar):(Vk n r).length=r.length:=by simp [Vk]
theorem Gz (n:Nat) (R:List (List Ar)):(Vl n R).length=R.length:=by simp [Vl]
theorem C1 (A R:List (List Ar)):(Dy A R).length=A.length+R.length:=by simp [Dy,Gz]
theorem NV (R:List (List Ar)):Dy [] R=R:=by
 have:Vk 0=id:=by funext r;simp [Vk]
 simp [Dy,Vl,this]
theorem Rq {A R:List (List Ar)} {s:Nat} (h:s<A.length):(Dy A R).getD s []=A.getD s []:=by
 rw [gE2,gE2,Dy,gEa h]
theorem Rr (A R:List (List Ar)) (s:Nat):(Dy A R).getD (A.length+s) []=Vk A.length (R.getD s []):=by
 rw [gE2,gE2,Dy,gEb (by omega),Nat.add_sub_cancel_left,Vl,List.getElem?_map]
 cases R[s]? <;> simp [Vk]
theorem Rt (n:Nat) (r:List Ar):Bm true (Vk n r)=Vk n (Bm true r):=by
 simp [Bm,Vk,List.takeWhile_map,Function.comp_def]
theorem Jy {A R:List (List Ar)} {s:Nat} (h:s<A.length):Uy true (Dy A R) s=Uy true A s:=by unfold Uy;rw [Rq h]
theorem Jz {A R:List (List Ar)} (hlo:Br R=true) (s:Nat):Uy true (Dy A R) (A.length+s)=(Uy true R s).map (A.length + ·):=by
 unfold Uy
 rw [Rr,Rt]
 unfold Vk
 rw [List.map_map,List.map_map]
 refine List.map_congr_left fun a ha=>?_
 have:=(Hu hlo (k:=s) a ha).1
 simp only [Function.comp_apply]
 omega
theorem HB {A R:List (List Ar)} (hA:∀ x,x<A.length->∀ y∈Uy true A x,y<A.length) {s u:Nat} (hs:s<A.length):Rc (Uy true (Dy A R)) s u↔Rc (Uy true A) s u:=by
 constructor
 rotate_left
 ·intro h
  induction h with
  | refl=>exact .refl _
  | tail h1 h2 ih=>
   refine ih.tail ?_
   rwa [Jy (h1.lt hs hA)]
 intro h
 induction h with
 | refl=>exact .refl _
 | tail h1 h2 ih=>
  refine ih.tail ?_
  rwa [Jy (ih.lt hs hA)] at h2
theorem HD {A R:List (List Ar)} (hlo:Br R=true) {s u:Nat}:Rc (Uy true (Dy A R)) (A.length+s) u↔∃ v,u=A.length+v/\Rc (Uy true R) s v:=by
 constructor
 rotate_left
 ·rintro ⟨v,rfl,h⟩
  induction h with
  | refl=>exact .refl _
  | tail h1 h2 ih=>
   refine ih.tail ?_
   rw [Jz hlo]
   exact List.mem_map.2 ⟨_,h2,rfl⟩
 intro h
 generalize hx:A.length+s=x at h
 induction h with
 | refl=>exact ⟨s,hx.symm,.refl _⟩
 | tail h1 h2 ih=>
  obtain ⟨v,e,h3⟩:=ih
  rw [e,Jz hlo] at h2
  obtain ⟨w,hw,rfl⟩:=List.mem_map.1 h2
  exact ⟨w,rfl,h3.tail hw⟩
theorem Ss {A R:List (List Ar)} (hA:∀ x,x<A.length->∀ y∈Uy true A x,y<A.length) {s:Nat} (hs:s<A.length):Dv (Dy A R) s↔Dv A s:=by
 constructor
 rotate_left
 ·rintro ⟨g,h1,w,h2,h3⟩
  have hg:=h1.lt hs hA
  exact ⟨g,(HB hA hs).2 h1,w,by rwa [Jy hg],(HB hA (hA _ hg _ h2)).2 h3⟩
 rintro ⟨g,h1,w,h2,h3⟩
 rw [HB hA hs] at h1
 have hg:=h1.lt hs hA
 rw [Jy hg] at h2
 exact ⟨g,h1,w,h2,(HB hA (hA _ hg _ h2)).1 h3⟩
theorem St {A R:List (List Ar)} (hlo:Br R=true) {s:Nat}:Dv (Dy A R) (A.length+s)↔Dv R s:=by
 constructor
 rotate_left
 ·rintro ⟨g,h1,w,h2,h3⟩
  refine ⟨A.length+g,(HD hlo).2 ⟨g,rfl,h1⟩,A.length+w,?_,(HD hlo).2 ⟨g,rfl,h3⟩⟩
  rw [Jz hlo]
  exact List.mem_map.2 ⟨w,h2,rfl⟩
 rintro ⟨g,h1,w,h2,h3⟩
 obtain ⟨g,rfl,p1⟩:=(HD hlo).1 h1
 rw [Jz hlo] at h2
 obtain ⟨w,p2,rfl⟩:=List.mem_map.1 h2
 obtain ⟨g2,e,p3⟩:=(HD hlo).1 h3
 have:g2=g:=by omega
 subst this
 exact ⟨_,p1,w,p2,p3⟩
def CpOk (R:List (List Ar)) (D:List Int):Prop:=D.length=R.length/\∀ v,v<R.length->Least (Uy true R) v (Ux D (-1) v)
theorem M3 {D:List Int} {s:Nat} {x:Int} (h:D[s]?=some x):Ux D (-1) s=x:=by unfold Ux;rw [h];rfl
theorem CpOk.both {A R:List (List Ar)} {C D:List Int} (hA:∀ x,x<A.length->∀ y∈Uy true A x,y<A.length) (hlo:Br R=true) (h1:CpOk A C) (h2:CpOk R D):CpOk (Dy A R) (C++D.map (·+(A.length:Int))):=by
 refine ⟨by rw [C1,List.length_append,List.length_map,h1.1,h2.1],fun v hv=>?_⟩
 rw [C1] at hv
 rcases Nat.lt_or_ge v A.length with h | h
 ·have e:Ux (C++D.map (·+(A.length:Int))) (-1) v=Ux C (-1) v:=by
   unfold Ux;rw [gEa (by rw [h1.1];exact h)]
  rw [e]
  obtain ⟨m,a1,a2,a3,a4⟩:=h1.2 v h
  have hm:=a2.lt h hA
  refine ⟨m,a1,(HB hA h).2 a2,(HB hA hm).2 a3,fun u b1 b2=>?_⟩
  have b1:=(HB hA h).1 b1
  exact a4 u b1 ((HB hA (b1.lt h hA)).1 b2)
 obtain ⟨s,rfl⟩:∃ s,v=A.length+s:=⟨v - A.length,by omega⟩
 have hs:s<R.length:=by omega
 obtain ⟨m,a1,a2,a3,a4⟩:=h2.2 s hs
 have hsD:s<D.length:=by rw [h2.1];exact hs
 have e:Ux (C++D.map (·+(A.length:Int))) (-1) (A.length+s)=Ux D (-1) s+(A.length:Int):=by
  unfold Ux
  rw [gEb (by rw [h1.1];omega),h1.1,Nat.add_sub_cancel_left,List.getElem?_map,gE1 hsD];rfl
 rw [e,a1]
 refine ⟨A.length+m,by omega,(HD hlo).2 ⟨m,rfl,a2⟩,(HD hlo).2 ⟨s,rfl,a3⟩,fun u b1 b2=>?_⟩
 obtain ⟨u,rfl,p1⟩:=(HD hlo).1 b1
 obtain ⟨s2,e2,p2⟩:=(HD hlo).1 b2
 have:s2=s:=by omega
 subst this
 have:=a4 u p1 p2
 omega
theorem DvL.both {A R:List (List Ar)} {B C:List Bool} (hA:∀ x,x<A.length->∀ y∈Uy true A x,y<A.length) (hlo:Br R=true) (h1:DvL A B) (h2:DvL R C):DvL (Dy A R) (B++C):=by
 refine ⟨by rw [C1,List.length_append,h1.1,h2.1],fun v hv=>?_⟩
 rw [C1] at hv
 rcases Nat.lt_or_ge v A.length with h | h
 ·rw [gE2,gEa (by rw [h1.1];exact h),<- gE2,h1.2 v h,Ss hA h]
 obtain ⟨s,rfl⟩:∃ s,v=A.length+s:=⟨v - A.length,by omega⟩
 rw [gE2,gEb (by rw [h1.1];omega),h1.1,Nat.add_sub_cancel_left,<- gE2,h2.2 s (by omega),St hlo]
theorem Ff {X:List (List Ar)} (hv:Bg X=true) {n m:Nat}:m∈Uy true X n↔(0,(m:Int))∈X.getD n []:=by
 rw [<- Rj true hv]
 unfold So Ri
 simp only [List.mem_map,List.mem_filter,Bool.not_true,Bool.false_or,beq_iff_eq]
 constructor
 rotate_left
 ·intro h
  exact ⟨_,⟨h,rfl⟩,by simp⟩
 rintro ⟨a,⟨h1,h2⟩,rfl⟩
 have h3:0<=a.2:=by
  rcases Nat.lt_or_ge n X.length with h | h
  rotate_left
  ·rw [gE2,List.getElem?_eq_none h] at h1;simp at h1
  rw [gE2,gE1 h,Option.getD_some] at h1
  have:=(gE4 hv).1.2.2.2 _ (gE6 h) a h1
  omega
 have e:((0:Int),((a.2.toNat:Nat):Int))=a:=by
  rcases a with ⟨x,y⟩
  simp only at h2 h3 ⊢
  rw [h2];congr 1;omega
 rw [e];exact h1
def Vm (D:List Int) (v:Nat):Nat:=(D.getD v 0).toNat
theorem Bi {X:List (List Ar)} {D:List Int} (hv:Bg X=true) (h:CpOk X D) {v:Nat} (hs:v<X.length):D[v]?=some (Vm D v:Int)/\Vm D v<X.length/\Rc (Uy true X) v (Vm D v)/\Rc (Uy true X) (Vm D v) v/\Vm D (Vm D v)=Vm D v:=by
 have hlo:Br X=true:=gEg (gE4 hv).1
 have hE:=Ce true hlo
 obtain ⟨m,a1,a2,a3,a4⟩:=h.2 v hs
 have hg:D[v]?=some (m:Int):=by
  have:v<D.length:=by rw [h.1];exact hs
  unfold Ux at a1
  rw [gE1 this] at a1 ⊢
  rw [<- a1];rfl
 have e:Vm D v=m:=by unfold Vm;rw [gE2,hg];rfl
 have hm:=a2.lt hs hE
 obtain ⟨m2,b1,b2,b3,b4⟩:=h.2 m hm
 have e2:Vm D m=m:=by
  have hg2:D[m]?=some (m2:Int):=by
   have:m<D.length:=by rw [h.1];exact hm
   unfold Ux at b1
   rw [gE1 this] at b1 ⊢
   rw [<- b1];rfl
  have c1:=a4 m2 (a2.trans b2) (b3.trans a3)
  have c2:=b4 m (.refl _) (.refl _)
  unfold Vm;rw [gE2,hg2]
  show ((m2:Int)).toNat=m
  omega
 rw [e]
 exact ⟨hg,hm,a2,a3,e2⟩
theorem Ru {X:List (List Ar)} {D:List Int} (hv:Bg X=true) (h:CpOk X D) {v w:Nat} (hs:v<X.length) (h1:Rc (Uy true X) v w) (h2:Rc (Uy true X) w v):Vm D v=Vm D w:=by
 have hlo:Br X=true:=gEg (gE4 hv).1
 have hw:=h1.lt hs (Ce true hlo)
 obtain ⟨m,a1,a2,a3,a4⟩:=h.2 v hs
 obtain ⟨k,b1,b2,b3,b4⟩:=h.2 w hw
 have c1:=a4 k (h1.trans b2) (b3.trans h2)
 have c2:=b4 m (h2.trans a2) (a3.trans h1)
 have d1:Ux D (-1) v=Ux D (-1) w:=by rw [a1,b1];omega
 have e1:=(Bi hv h hs).1
 have e2:=(Bi hv h hw).1
 rw [M3 e1,M3 e2] at d1
 omega
noncomputable def Vn (X:List (List Ar)) (v:Nat):Nat:=(List.range X.length).countP fun u=>@decide (Rc (Uy true X) v u) (Classical.propDecidable _)
theorem HE {γ:Type} {p q:γ->Bool}:∀ {l:List γ},(∀ x∈l,p x=true->q x=true)->∀ x∈l,q x=true->p x=false->l.countP p<l.countP q
 | a :: l,h,x,hx,h1,h2=>by
  have hm:l.countP p<=l.countP q:=List.countP_mono_left fun y hy=>h y (gEf _ hy)
  have ha:=h a List.mem_cons_self
  rw [List.countP_cons,List.countP_cons]
  rcases List.mem_cons.1 hx with rfl | hx
  ·rw [h1,h2];simp;omega
  ·have ih:=HE (fun y hy=>h y (gEf _ hy)) x hx h1 h2
   cases hp:p a with
   | false=>simp;split <;> omega
   | true=>rw [ha hp];simp;omega
theorem NW {X:List (List Ar)} {D:List Int} (hv:Bg X=true) (h:CpOk X D):∀ e∈Vf (Vm D) X X.length,(e.1<X.length/\Vm D e.1=e.1)/\e.2<X.length/\Vm D e.2=e.2/\Vn X e.2<Vn X e.1:=by
 intro e he
 have hlo:Br X=true:=gEg (gE4 hv).1
 have hE:=Ce true hlo
 obtain ⟨s,hs,a,ha,h0,hne,rfl⟩:=Ec.1 he
 have hg:X.getD s []=X[s]:=by rw [gE2,gE1 hs];rfl
 rw [hg] at ha
 have hb:=(gE4 hlo).2.2.2 _ (gE6 hs) a ha
 have ht:a.2.toNat<X.length:=by omega
 have hadj:a.2.toNat∈Uy true X s:=by
  rw [Ff hv,hg]
  have:((0:Int),((a.2.toNat:Nat):Int))=a:=by
   rcases a with ⟨x,y⟩
   simp only at h0 hb ⊢
   rw [h0];congr 1;omega
  rw [this];exact ha
 obtain ⟨_,p2,p3,p4,p5⟩:=Bi hv h hs
 obtain ⟨_,q2,q3,q4,q5⟩:=Bi hv h ht
 refine ⟨⟨p2,p5⟩,q2,q5,?_⟩
 have hst:Rc (Uy true X) (Vm D s) (Vm D a.2.toNat):=(p4.trans (.one hadj)).trans q3
 unfold Vn
 refine HE (fun u _ hu=>?_) (Vm D s) (List.mem_range.2 p2) (@decide_eq_true _ (Classical.propDecidable _) (.refl _)) ?_
 ·simp only [decide_eq_true_eq] at hu ⊢
  exact hst.trans hu
 refine @decide_eq_false _ (Classical.propDecidable _) fun hc=>hne ?_
 refine Ru hv h hs (.one hadj) ?_
 exact (q3.trans hc).trans p4
theorem M4 {A R:List (List Ar)} (hA:A=[]\/Bg A=true) (hR:Bg R=true) (h1:A.length+R.length<=QQ) (h2:BP A+BP R<=QR):Bg (Dy A R)=true:=by
 have h:=gE4 hR
 have hA2:∀ r∈A,(∀ a∈r,0<=a.1/\a.1<=1025/\0<=a.2/\a.2<(A.length:Int))/\SortA r:=by
  rcases hA with rfl | hA
  ·intro r hr;simp at hr
  have h3:=gE4 hA
  exact fun r hr=>⟨h3.1.2.2.2 r hr,h3.2 r hr⟩
 refine gEg ⟨⟨by rw [C1];have:=h.1.1;omega,by rw [C1];exact h1,?_,fun r hr a ha=>?_⟩,fun r hr=>?_⟩
 ·have:BP (Dy A R)=BP A+BP R:=by
   unfold BP Dy Vl
   rw [List.map_append,List.sum_append,List.map_map]
   have:(List.length ∘ Vk A.length)=List.length:=by funext r;exact Ca _ r
   rw [this]
  omega
 ·rw [C1]
  rcases List.mem_append.1 hr with h3 | h3
  ·have:=(hA2 r h3).1 a ha;omega
  obtain ⟨q,hq,rfl⟩:=List.mem_map.1 h3
  obtain ⟨b,hb,rfl⟩:=List.mem_map.1 ha
  have:=h.1.2.2.2 q hq b hb
  simp only
  omega
 rcases List.mem_append.1 hr with h3 | h3
 ·exact (hA2 r h3).2
 obtain ⟨q,hq,rfl⟩:=List.mem_map.1 h3
 have h4:=h.2 q hq
 unfold SortA Vk at *
 rw [List.pairwise_map]
 refine h4.imp fun {a b} hab=>?_
 rw [BA] at hab ⊢
 simp only
 omega
section
variable {α β : Type} [DecidableEq α] [DecidableEq β]
def UW (f:Nat->α):Nat->List Int × Nat
 | 0=>([],0)
 | k+1=>match (List.range k).find? (fun t=>decide (f t=f k)) with
  | some t=>((UW f k).1++[(UW f k).1.getD t 0],(UW f k).2)
  | none=>((UW f k).1++[((UW f k).2:Int)],(UW f k).2+1)
theorem DN {f:Nat->α} {k t:Nat} (h:(List.range k).find? (fun t=>decide (f t=f k))=some t):UW f (k+1)=((UW f k).1++[(UW f k).1.getD t 0],(UW f k).2):=by rw [UW,h]
theorem DO {f:Nat->α} {k:Nat} (h:(List.range k).find? (fun t=>decide (f t=f k))=none):UW f (k+1)=((UW f k).1++[((UW f k).2:Int)],(UW f k).2+1):=by rw [UW,h]
theorem Hz {f:Nat->α} {k t:Nat} (ht:t<k) (h:f t=f k) (hn:∀ u,u<t->f u ≠ f k):(List.range k).find? (fun t=>decide (f t=f k))=some t:=by
 rw [List.find?_range_eq_some]
 exact ⟨by simpa using h,by simpa using ht,fun j hj=>by simpa using hn j hj⟩
theorem HA {f:Nat->α} {k:Nat} (hn:∀ u,u<k->f u ≠ f k):(List.range k).find? (fun t=>decide (f t=f k))=none:=by
 rw [List.find?_range_eq_none]
 exact fun j hj=>by simpa using hn j hj
theorem EE (f:Nat->α) (k:Nat):(∃ t,t<k/\f t=f k/\(∀ u,u<t->f u ≠ f k)/\UW f (k+1)=((UW f k).1++[(UW f k).1.getD t 0],(UW f k).2))\/((∀ u,u<k->f u ≠ f k)/\UW f (k+1)=((UW f k).1++[((UW f k).2:Int)],(UW f k).2+1)):=by
 cases h:(List.range k).find? (fun t=>decide (f t=f k)) with
 | some t=>
  have h2:=List.find?_range_eq_some.1 h
  exact .inl ⟨t,by simpa using h2.2.1,by simpa using h2.1,fun u hu=>by simpa using h2.2.2 u hu,DN h⟩
 | none=>
  have h2:=List.find?_range_eq_none.1 h
  exact .inr ⟨fun u hu=>by simpa using h2 u hu,DO h⟩
structure NmOk (f:Nat->α) (k:Nat) (p:List Int × Nat):Prop where
 len:p.1.length=k
 eq:∀ s t,s<k->t<k->(p.1.getD s 0=p.1.getD t 0↔f s=f t)
 rng:∀ s,s<k->0<=p.1.getD s 0/\p.1.getD s 0<(p.2:Int)
 cnt:p.2<=k
theorem Cg {l:List Int} {x:Int} {s:Nat} (h:s<l.length):(l++[x]).getD s 0=l.getD s 0:=by
 rw [gE2,gEa h,<- gE2]
theorem CQ {l:List Int} {x:Int} {s:Nat} (h:s=l.length):(l++[x]).getD s 0=x:=by
 subst h
 rw [gE2,gEb (Nat.le_refl _),Nat.sub_self];rfl
theorem Ch (f:Nat->α) (k:Nat):NmOk f k (UW f k):=by
 induction k with
 | zero=>exact ⟨rfl,fun s t h=>by omega,fun s h=>by omega,Nat.le_refl _⟩
 | succ k ih=>
  have hl:=ih.len
  rcases EE f k with ⟨t,h1,h2,h3,h4⟩ | ⟨h3,h4⟩
  ·rw [h4]
   generalize UW f k=p at *
   have g1:∀ s,s<k->(p.1++[p.1.getD t 0]).getD s 0=p.1.getD s 0:=fun s hs=>Cg (by omega)
   have g2:(p.1++[p.1.getD t 0]).getD k 0=p.1.getD t 0:=CQ hl.symm
   refine ⟨by simp [hl],fun s u hs hu=>?_,fun s hs=>?_,by have:=ih.cnt;simp only;omega⟩
   rotate_left
   ·simp only
    rcases Nat.lt_or_ge s k with a | a
    ·rw [g1 s a];exact ih.rng s a
    have:s=k:=by omega
    subst this;rw [g2];exact ih.rng t h1
   simp only
   rcases Nat.lt_or_ge s k with a | a <;> rcases Nat.lt_or_ge u k with b | b
   ·rw [g1 s a,g1 u b];exact ih.eq s u a b
   ·have:u=k:=by omega
    subst this
    rw [g1 s a,g2,ih.eq s t a h1,h2]
   ·have:s=k:=by omega
    subst this
    rw [g1 u b,g2,ih.eq t u h1 b,h2]
   have e1:s=k:=by omega
   have e2:u=k:=by omega
   subst e1;subst e2;simp
  rw [h4]
  generalize UW f k=p at *
  have g1:∀ s,s<k->(p.1++[(p.2:Int)]).getD s 0=p.1.getD s 0:=fun s hs=>Cg (by omega)
  have g2:(p.1++[(p.2:Int)]).getD k 0=p.2:=CQ hl.symm
  refine ⟨by simp [hl],fun s u hs hu=>?_,fun s hs=>?_,by have:=ih.cnt;simp only;omega⟩
  rotate_left
  ·simp only
   rcases Nat.lt_or_ge s k with a | a
   ·rw [g1 s a];have:=ih.rng s a;omega
   have:s=k:=by omega
   subst this;rw [g2];omega
  simp only
  rcases Nat.lt_or_ge s k with a | a <;> rcases Nat.lt_or_ge u k with b | b
  rotate_left 3
  ·have e1:s=k:=by omega
   have e2:u=k:=by omega
   subst e1;subst e2;simp
  ·rw [g1 s a,g1 u b];exact ih.eq s u a b
  ·have:u=k:=by omega
   subst this
   rw [g1 s a,g2]
   have:=ih.rng s a
   exact ⟨fun e=>by omega,fun e=>absurd e (h3 s a)⟩
  have:s=k:=by omega
  subst this
  rw [g1 u b,g2]
  have:=ih.rng u b
  exact ⟨fun e=>by omega,fun e=>absurd e.symm (h3 u b)⟩
theorem LT {f:Nat->α} {g:Nat->β}:∀ k,(∀ s t,s<k->t<k->(f s=f t↔g s=g t))->UW f k=UW g k:=by
 intro k
 induction k with
 | zero=>intro _;rfl
 | succ k ih=>
  intro h
  have ih2:=ih fun s t hs ht=>h s t (by omega) (by omega)
  rcases EE f k with ⟨t,h1,h2,h3,h4⟩ | ⟨h3,h4⟩
  ·rw [h4,DN (f:=g) (Hz h1 ((h t k (by omega) (by omega)).1 h2) fun u hu e=>h3 u hu ((h u k (by omega) (by omega)).2 e)),ih2]
  rw [h4,DO (f:=g) (HA fun u hu e=>h3 u hu ((h u k (by omega) (by omega)).2 e)),ih2]
theorem Jr (f:Nat->α) (n:Nat):UW (fun s=>(UW f n).1.getD s 0) n=UW f n:=LT n fun s t hs ht=>(Ch f n).eq s t hs ht
def NN (f:Nat->α) (k:Nat):Bool:=(List.range k).all fun t=>!decide (f t=f k)
theorem D4 {f:Nat->α} {k:Nat}:NN f k=true↔∀ t,t<k->f t ≠ f k:=by simp [NN]
theorem Js (f:Nat->α) (k:Nat):(UW f k).2=(List.range k).countP (NN f):=by
 induction k with
 | zero=>rfl
 | succ k ih=>
  rw [List.range_succ,List.countP_append,<- ih]
  rcases EE f k with ⟨t,h1,h2,h3,h4⟩ | ⟨h3,h4⟩
  rotate_left
  ·have:NN f k=true:=D4.2 h3
   rw [h4];simp [this]
  have:NN f k=false:=by
   rw [<- Bool.not_eq_true,D4]
   exact fun h=>h t h1 h2
  rw [h4];simp [this]
theorem DP {γ:Type} {p q:γ->Bool}:∀ {l:List γ},(∀ x∈l,p x=true->q x=true)->l.countP p=l.countP q->∀ x∈l,q x=true->p x=true
 | [],_,_,x,hx,_=>by simp at hx
 | a :: r,h,e,x,hx,hq=>by
  have hle:=List.countP_mono_left (p:=p) (q:=q) (l:=r) fun y hy=>h y (gEf _ hy)
  rw [List.countP_cons,List.countP_cons] at e
  have ha:=h a (by simp)
  rcases List.mem_cons.1 hx with rfl | hx
  ·cases hp:p x with
   | true=>rfl
   | false=>rw [hp,hq] at e;simp at e;omega
  ·refine DP (fun y hy=>h y (gEf _ hy)) ?_ x hx hq
   cases hp:p a with
   | true=>rw [hp,ha hp] at e;simp at e;exact e
   | false=>
    rw [hp] at e
    cases hqa:q a with
    | true=>rw [hqa] at e;simp at e;omega
    | false=>rw [hqa] at e;simpa using e
theorem Jt {f:Nat->α} (s:Nat):∃ t,t<=s/\f t=f s/\NN f t=true:=by
 induction s using Nat.strongRecOn with
 | _ s ih=>
  cases h:NN f s with
  | true=>exact ⟨s,Nat.le_refl _,rfl,h⟩
  | false=>
   have:¬ ∀ t,t<s->f t ≠ f s:=fun q=>by rw [D4.2 q] at h;cases h
   obtain ⟨t,ht,e⟩:∃ t,t<s/\f t=f s:=Classical.byContradiction fun q=>this fun t ht e=>q ⟨t,ht,e⟩
   obtain ⟨u,h1,h2,h3⟩:=ih t ht
   exact ⟨u,by omega,h2.trans e,h3⟩
theorem LU {f:Nat->α} {g:Nat->β} {n:Nat} (h:∀ s t,s<n->t<n->g s=g t->f s=f t):(UW f n).2<=(UW g n).2/\((UW f n).2=(UW g n).2->UW f n=UW g n):=by
 have hsub:∀ k∈List.range n,NN f k=true->NN g k=true:=fun k hk hf=>by
  rw [List.mem_range] at hk
  rw [D4] at hf ⊢
  exact fun t ht e=>hf t ht (h t k (by omega) hk e)
 rw [Js,Js]
 refine ⟨List.countP_mono_left hsub,fun e=>LT n fun s t hs ht=>⟨fun hf=>?_,h s t hs ht⟩⟩
 have hback:=DP hsub e
 obtain ⟨s1,a1,a2,a3⟩:=Jt (f:=g) s
 obtain ⟨t1,b1,b2,b3⟩:=Jt (f:=g) t
 have c1:=D4.1 (hback s1 (List.mem_range.2 (by omega)) a3)
 have c2:=D4.1 (hback t1 (List.mem_range.2 (by omega)) b3)
 have d1:f s1=f s:=h s1 s (by omega) hs a2
 have d2:f t1=f t:=h t1 t (by omega) ht b2
 have e3:f s1=f t1:=by rw [d1,d2,hf]
 have e4:s1=t1:=by
  rcases Nat.lt_trichotomy s1 t1 with q | q | q
  ·exact absurd e3 (c2 s1 q)
  ·exact q
  exact absurd e3.symm (c1 t1 q)
 rw [<- a2,<- b2,e4]
end
def UX (S:List (List Ar)) (c:List Int) (s:Nat):List Ar:=CI ((S.getD s []).map fun a=>(a.1,c.getD a.2.toNat 0))
theorem CS {S:List (List Ar)} {c:List Int} {s:Nat} {x:Ar}:x∈UX S c s↔∃ a∈S.getD s [],x=(a.1,c.getD a.2.toNat 0):=by
 unfold UX
 rw [C8,List.mem_map]
 exact ⟨fun ⟨a,h1,h2⟩=>⟨a,h1,h2.symm⟩,fun ⟨a,h1,h2⟩=>⟨a,h1,h2.symm⟩⟩
def S8 (c:List Int) (row:List Ar) (e x:Int):Bool:=row.any fun a=>a.1 == e && c.getD a.2.toNat 0 == x
def OS (c:List Int) (a b:List Ar):Bool:=a.all fun x=>S8 c b x.1 (c.getD x.2.toNat 0)
theorem LV {S:List (List Ar)} {c:List Int} {s t:Nat}:UX S c s=UX S c t↔OS c (S.getD s []) (S.getD t [])=true/\OS c (S.getD t []) (S.getD s [])=true:=by
 have key:∀ s t,OS c (S.getD s []) (S.getD t [])=true↔∀ x∈UX S c s,x∈UX S c t:=by
  intro s t
  simp only [OS,S8,List.all_eq_true,List.any_eq_true,Bool.and_eq_true,beq_iff_eq]
  constructor
  ·intro h x hx
   obtain ⟨a,ha,rfl⟩:=CS.1 hx
   obtain ⟨b,hb,h1,h2⟩:=h a ha
   exact CS.2 ⟨b,hb,by rw [h1,h2]⟩
  intro h a ha
  obtain ⟨b,hb,e⟩:=CS.1 (h _ (CS.2 ⟨a,ha,rfl⟩))
  injection e with e1 e2
  exact ⟨b,hb,e1.symm,e2.symm⟩
 rw [key,key]
 constructor
 ·intro h;rw [h];exact ⟨fun _ h=>h,fun _ h=>h⟩
 rintro ⟨h1,h2⟩
 exact BN (AD _) (AD _) fun x=>⟨h1 x,h2 x⟩
def UY (S:List (List Ar)) (c:List Int) (s:Nat):Int × List Ar:=(c.getD s 0,UX S c s)
def UZ (S:List (List Ar)) (c:List Int):List Int:=(UW (UY S c) S.length).1
def V0 (S:List (List Ar)) (c:List Int):Nat->List Int
 | 0=>c
 | k+1=>UZ S (V0 S c k)
def FxS (S:List (List Ar)) (c d:List Int):Prop:=∃ k,d=V0 S c k/\UZ S d=d
theorem FxS.stay {S:List (List Ar)} {c:List Int} {k j:Nat} (h:UZ S (V0 S c k)=V0 S c k) (hj:k<=j):V0 S c j=V0 S c k:=by
 induction j with
 | zero=>
  have:k=0:=by omega
  subst this;rfl
 | succ j ih=>
  by_cases e:k=j+1
  ·subst e;rfl
  rw [V0,ih (by omega),h]
theorem FxS.uniq {S:List (List Ar)} {c d e:List Int} (h1:FxS S c d) (h2:FxS S c e):d=e:=by
 obtain ⟨k,rfl,hk⟩:=h1
 obtain ⟨j,rfl,hj⟩:=h2
 rcases Nat.le_total k j with h | h
 ·exact (FxS.stay hk h).symm
 exact FxS.stay hj h
def Nrm (n:Nat) (c:List Int):Prop:=(UW (fun s=>c.getD s 0) n).1=c
def Ew (n:Nat) (c:List Int):Nat:=(UW (fun s=>c.getD s 0) n).2
theorem OT {α:Type} [DecidableEq α] (f:Nat->α) (n:Nat):Nrm n (UW f n).1:=by unfold Nrm;rw [Jr]
theorem LW {α:Type} [DecidableEq α] (f:Nat->α) (n:Nat):Ew n (UW f n).1=(UW f n).2:=by unfold Ew;rw [Jr]
theorem Nrm.len {n:Nat} {c:List Int} (h:Nrm n c):c.length=n:=by rw [<- h];exact (Ch _ n).len
theorem Nrm.rng {n:Nat} {c:List Int} (h:Nrm n c):∀ x∈c,0<=x/\x<(n:Int):=fun x hx=>by
 obtain ⟨i,hi,rfl⟩:=List.getElem_of_mem hx
 have hl:=h.len
 have h1:=(Ch (fun s=>c.getD s 0) n).rng i (by omega)
 have h2:=(Ch (fun s=>c.getD s 0) n).cnt
 unfold Nrm at h
 rw [h,gE2,gE1 hi,Option.getD_some] at h1
 omega
theorem Ro (S:List (List Ar)) (c:List Int):Nrm S.length (UZ S c):=OT _ _
theorem Sr {S:List (List Ar)} {c:List Int} (h:Nrm S.length c) (hne:UZ S c ≠ c):Ew S.length c<Ew S.length (UZ S c):=by
 have hr:=LU (f:=fun s=>c.getD s 0) (g:=UY S c) (n:=S.length) fun s t _ _ e=>by
  have:=congrArg Prod.fst e
  exact this
 have e1:Ew S.length (UZ S c)=(UW (UY S c) S.length).2:=LW _ _
 rw [e1]
 unfold Ew
 rcases Nat.lt_or_eq_of_le hr.1 with q | q
 ·exact q
 exfalso
 apply hne
 have:=hr.2 q
 unfold UZ
 rw [<- this]
 exact h
theorem OU (n:Nat) (c:List Int):Ew n c<=n:=(Ch _ n).cnt
end Go.Proofs.YtjijjfkalheokaaDoor
namespace Go.Proofs.YtjijjfkalheokaaDoor
set_option linter.unusedVariables false
set_option linter.unusedSimpArgs false
open Go.RowKit
set_option maxRecDepth 100000

end Go.Proofs.YtjijjfkalheokaaDoor
namespace Go.Proofs.YtjijjfkalheokaaDoor
set_option linter.unusedVariables false
set_option linter.unusedSimpArgs false
open Go.RowKit
set_option maxRecDepth 100000

def Dt {α:Type} [DecidableEq α] (p:α):List α->List α
 | []=>[]
 | y :: ys=>if y=p then Dt p ys else y :: Dt y ys
def Kj {α:Type} [DecidableEq α]:List α->List α
 | []=>[]
 | x :: xs=>x :: Dt x xs
section
variable {α : Type} [DecidableEq α]
theorem FS {r ys:List α} {m p:Nat} {a b:α} (h:r=ys.take m++Dt a (ys.drop p)) (hm:m<=p) (hb:ys[p]?=some b):
  (b=a->r=ys.take m++Dt b (ys.drop (p+1)))/\
  (b ≠ a->r=(ys.set m b).take (m+1)++Dt b ((ys.set m b).drop (p+1)))/\(b ≠ a->m=p->ys.set m b=ys):=by
 have hl:=(List.getElem?_eq_some_iff.1 hb).1
 have hbe:ys[p]=b:=(List.getElem?_eq_some_iff.1 hb).2
 have hd:ys.drop p=b :: ys.drop (p+1):=by
  rw [List.drop_eq_getElem_cons hl,hbe]
 rw [hd] at h
 refine ⟨fun e=>?_,fun e=>?_,fun _ e=>?_⟩
 rotate_left 2
 ·subst e;rw [<- hbe];exact List.set_getElem_self hl
 ·rw [h,e];simp [Dt]
 have h2:(ys.set m b).drop (p+1)=ys.drop (p+1):=by rw [List.drop_set,if_pos (by omega)]
 have h3:(ys.set m b).take (m+1)=ys.take m++[b]:=by
  rw [List.take_add_one,List.take_set_of_le (Nat.le_refl m)]
  simp [List.getElem?_set,show m<ys.length by omega]
 rw [h,h2,h3]
 simp [Dt,e]
theorem LF {r ys:List α} {m p:Nat} {a:α} (h:r=ys.take m++Dt a (ys.drop p)) (hp:ys.length<=p):r=ys.take m:=by
 rw [h,List.drop_eq_nil_of_le hp];simp [Dt]
end
def Ie (L:List (List Int)):List C:=L.map fun x=>C.t 1 (Af x)
theorem Jh:∀ (zs cs:List C) (off:Nat),off+zs.length=cs.length->De cs off zs=cs.take off++zs
 | [],cs,off,h=>by simp [De] at h ⊢;rw [gE7 (by omega)]
 | x :: r,cs,off,h=>by
  simp only [De]
  rw [Jh r _ (off+1) (by simp at h ⊢;omega)]
  rw [List.take_add_one,List.take_set_of_le (Nat.le_refl _)]
  simp [List.getElem?_set,show off<cs.length by simp at h;omega]
end Go.Proofs.YtjijjfkalheokaaDoor
