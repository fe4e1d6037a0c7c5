/- Lemmas. -/
import Derived.Test.YtjijjfkalheokaaGreatDoorG42
import Derived.Test.YtjijjfkalheokaaGreatDoorG11
import Derived.Test.YtjijjfkalheokaaGreatDoorTj1
import Derived.Test.YtjijjfkalheokaaGreatDoorZk
namespace Go.Proofs.YtjijjfkalheokaaGreatDoor
set_option linter.unusedVariables false
set_option linter.unusedSimpArgs false
open Go.RowKit
set_option maxRecDepth 100000
attribute [local go_sem] lga C.pl C.one

def WU (B:List Bool):List C:=B.map fun b=>C.v (.bool b)
theorem CM (B:List Bool):(WU B).length=B.length:=by simp [WU]
theorem Jf {B:List Bool} {i:Nat} {b:Bool} (h:B[i]?=some b):(WU B)[i]?=some (.v (.bool b)):=by simp [WU,h]
theorem Gi (B:List Bool) (i:Nat) (b:Bool):(WU B).set i (.v (.bool b))=WU (B.set i b):=by simp [WU,List.map_set]
theorem Cf (f:List Nat) (B:List Bool):(WU B).map (C.ren f)=WU B:=by simp [WU,C.ren,Function.comp_def]
def Hl (t:Bool) (r:List Ar):List Ar:=r.filter fun a=>!t || a.1 == 0
def LA (t:Bool) (R:List (List Ar)) (v:Nat):List Nat:=(Hl t (R.getD v [])).map fun a=>a.2.toNat
def Bu (B:List Bool) (u:Nat):Bool:=B.getD u false
structure Rs (E:Nat->List Nat) (n:Nat) (F:List Nat) (B:List Bool) (Q:List Nat):Prop where
 len:B.length=n
 snd:∀ u,Bu B u=true->∃ v∈F,Rc E v u
 q:∀ u∈Q,u<n/\∃ v∈F,Rc E v u
 cl:∀ u,Bu B u=true->∀ w∈E u,Bu B w=true\/w∈Q
 st:∀ v∈F,Bu B v=true\/v∈Q
variable {E : Nat -> List Nat} {n u : Nat} {F : List Nat} {B : List Bool} {Q : List Nat}
theorem Rs.start (hF:∀ v∈F,v<n):Rs E n F (List.replicate n false) F:=by
 have e:∀ u,Bu (List.replicate n false) u=false:=fun u=>by
  unfold Bu;rw [gE2,List.getElem?_replicate];split <;> rfl
 exact ⟨by simp,fun u h=>(by rw [e] at h;cases h),fun u h=>⟨hF u h,u,h,.refl _⟩,fun u h=>(by rw [e] at h;cases h),fun v h=>.inr h⟩
theorem Rs.old (h:Rs E n F B (Q++[u])) (hs:Bu B u=true):Rs E n F B Q:=by
 refine ⟨h.len,h.snd,fun w hw=>h.q w (List.mem_append_left _ hw),fun w hw x hx=>?_,fun v hv=>?_⟩
 rotate_left
 ·rcases h.st v hv with h1 | h1
  ·exact .inl h1
  rcases List.mem_append.1 h1 with h1 | h1
  ·exact .inr h1
  simp at h1;subst h1;exact .inl hs
 rcases h.cl w hw x hx with h1 | h1
 ·exact .inl h1
 rcases List.mem_append.1 h1 with h1 | h1
 ·exact .inr h1
 simp at h1;subst h1;exact .inl hs
theorem Rs.done (h:Rs E n F B []) (u:Nat):Bu B u=true↔∃ v∈F,Rc E v u:=by
 refine ⟨h.snd u,fun ⟨v,hv,hr⟩=>?_⟩
 induction hr with
 | refl=>exact (h.st v hv).resolve_right (by simp)
 | tail _ he ih=>exact (h.cl _ (ih ⟨v,hv,‹_›⟩) _ he).resolve_right (by simp)
end Go.Proofs.YtjijjfkalheokaaGreatDoor
namespace Go.Proofs.YtjijjfkalheokaaGreatDoor
set_option linter.unusedVariables false
set_option linter.unusedSimpArgs false

def Cq (r:List Ar):List Ar:=r.foldl (fun acc a=>D1 a acc) []
def AX (num old:List Int) (t:Int):List Int × List Int:=if num.getD t.toNat 0<0 then (num.set t.toNat old.length,old++[t]) else (num,old)
def Cr:List Ar->List Int->List Int->List Ar->List Int × List Int × List Ar
 | [],num,old,nxt=>(num,old,nxt)
 | a :: tl,num,old,nxt=>Cr tl (AX num old a.2).1 (AX num old a.2).2 (D1 (a.1,(AX num old a.2).1.getD a.2.toNat 0) nxt)
def F2 (rows:List (List Ar)):Nat->Nat->List Int->List Int->List (List Ar)->List (List Ar) × List Int
 | 0,_,_,old,out=>(out,old)
 | f+1,i,num,old,out=>match old[i]? with
  | none=>(out,old)
  | some s=>F2 rows f (i+1) (Cr (Cq (rows.getD s.toNat [])) num old []).1 (Cr (Cq (rows.getD s.toNat [])) num old []).2.1 (out++[(Cr (Cq (rows.getD s.toNat [])) num old []).2.2])
def BT (rows:List (List Ar)):List (List Ar) × List Int:=F2 rows rows.length 0 ((List.replicate rows.length (-1)).set 0 0) [0] []

theorem Hm (r acc:List Ar) (a:Ar):a∈r.foldl (fun acc a=>D1 a acc) acc↔a∈acc\/a∈r:=by
 induction r generalizing acc with
 | nil=>simp
 | cons x xs ih=>rw [List.foldl_cons,ih,FH,List.mem_cons,or_comm (a:=a=x),or_assoc]
theorem C8 (r:List Ar) (a:Ar):a∈Cq r↔a∈r:=by unfold Cq;rw [Hm];simp
theorem EC (r acc:List Ar):(r.foldl (fun acc a=>D1 a acc) acc).length<=acc.length+r.length:=by
 induction r generalizing acc with
 | nil=>simp
 | cons x xs ih=>rw [List.foldl_cons,List.length_cons];have:=ih (D1 x acc);have:=DO x acc;omega
theorem Gj (r:List Ar):(Cq r).length<=r.length:=by have:=EC r [];simpa [Cq] using this

structure NumOk (n:Nat) (num old:List Int):Prop where
 len:num.length=n
 rng:∀ x∈num,-1<=x/\x<n
 st:∀ s∈old,0<=s/\s<n
 cnt:old.length+num.countP (fun x=>decide (x<0))=n
theorem LC {p:Int->Bool} {l:List Int} {i:Nat} {x y:Int} (h:l[i]?=some x) (hx:p x=true) (hy:p y=false):(l.set i y).countP p+1=l.countP p:=by
 induction l generalizing i with
 | nil=>simp at h
 | cons z zs ih=>
  cases i with
  | zero=>simp at h;subst h;simp [List.countP_cons,hx,hy]
  | succ i=>
   simp only [List.getElem?_cons_succ] at h
   have:=ih h
   simp only [List.set_cons_succ,List.countP_cons]
   omega
theorem NumOk.le {n:Nat} {num old:List Int} (h:NumOk n num old):old.length<=n:=by have:=h.cnt;omega
theorem NumOk.get {n:Nat} {num old:List Int} (h:NumOk n num old) {t:Int} (h0:0<=t) (h1:t<n):∃ x,num[t.toNat]?=some x/\num.getD t.toNat 0=x /\ -1<=x/\x<n:=by
 have hl:t.toNat<num.length:=by rw [h.len];omega
 exact ⟨num[t.toNat],gE1 hl,by simp [hl],h.rng _ (gE6 hl)⟩
theorem NumOk.one {n:Nat} {num old:List Int} (h:NumOk n num old) {t:Int} (h0:0<=t) (h1:t<n):NumOk n (AX num old t).1 (AX num old t).2:=by
 obtain ⟨x,hx,hd,hb⟩:=h.get h0 h1
 unfold AX
 rw [hd]
 split
 rotate_left
 ·exact h
 rename_i hneg
 have hc:=LC (p:=fun x=>decide (x<0)) (y:=(old.length:Int)) hx (by simpa using hneg) (by simp)
 have hcnt:=h.cnt
 refine ⟨by simp [h.len],fun y hy=>?_,fun s hs=>?_,by simp;omega⟩
 ·rcases List.mem_or_eq_of_mem_set hy with hy | hy
  ·exact h.rng y hy
  subst hy;omega
 rcases List.mem_append.1 hs with hs | hs
 ·exact h.st s hs
 simp at hs;subst hs;exact ⟨h0,h1⟩
theorem NumOk.go {n:Nat}:∀ (r:List Ar) {num old:List Int} (nxt:List Ar),NumOk n num old->(∀ a∈r,0<=a.2/\a.2<n)->NumOk n (Cr r num old nxt).1 (Cr r num old nxt).2.1
 | [],_,_,_,h,_=>h
 | a :: tl,_,_,nxt,h,hr=>NumOk.go tl _ (h.one (hr a (by simp)).1 (hr a (by simp)).2) (fun b hb=>hr b (gEf _ hb))
theorem NumOk.start {n:Nat} (hn:0<n):NumOk n ((List.replicate n (-1)).set 0 0) [0]:=by
 obtain ⟨k,rfl⟩:∃ k,n=k+1:=⟨n - 1,by omega⟩
 refine ⟨by simp,fun x hx=>?_,fun s hs=>?_,?_⟩
 rotate_left
 ·simp at hs;subst hs;omega
 ·simp [List.replicate_succ,List.countP_replicate];omega
 rcases List.mem_or_eq_of_mem_set hx with h | h
 ·rw [(List.mem_replicate.1 h).2];omega
 subst h;omega


theorem GT {rows:List (List Ar)} {f i:Nat} {num old:List Int} {out:List (List Ar)} (h:old.length<=i):F2 rows f i num old out=(out,old):=by
 cases f with
 | zero=>rfl
 | succ f=>simp [F2,List.getElem?_eq_none h]
theorem GU {rows:List (List Ar)} {n i:Nat} {num old:List Int} {out:List (List Ar)} {s:Int} {r:List Ar} (hi:i<n) (hs:old[i]?=some s) (hr:rows[s.toNat]?=some r) {row:List Ar} (hrow:row=Cq r):
  F2 rows (n - i) i num old out=F2 rows (n - (i+1)) (i+1) (Cr row num old []).1 (Cr row num old []).2.1 (out++[(Cr row num old []).2.2]):=by
 obtain ⟨m,hm⟩:∃ m,n - i=m+1:=⟨n - i - 1,by omega⟩
 have hm':n - (i+1)=m:=by omega
 rw [hm,hm',F2,hs,hrow]
 have:rows.getD s.toNat []=r:=by simp [List.getD,hr]
 simp only [this]

def DC (p:Ar):List Ar->List Ar
 | []=>[]
 | y :: ys=>if y=p then DC p ys else y :: DC y ys
def PD:List Ar->List Ar
 | []=>[]
 | x :: xs=>x :: DC x xs


theorem Cg:∀ {l m:List Ar},SortA l->SortA m->(∀ a,a∈l↔a∈m)->l=m
 | [],[],_,_,_=>rfl
 | [],b :: m,_,_,h=>by have:=(h b).2 (by simp);simp at this
 | a :: l,[],_,_,h=>by have:=(h a).1 (by simp);simp at this
 | a :: l,b :: m,hl,hm,h=>by
  have hl':=List.pairwise_cons.1 hl
  have hm':=List.pairwise_cons.1 hm
  have hab:a=b:=by
   rcases List.mem_cons.1 ((h a).1 (by simp)) with e | e
   ·exact e
   ·rcases List.mem_cons.1 ((h b).2 (by simp)) with e' | e'
    ·exact e'.symm
    ·have h1:=hm'.1 a e
     have h2:=hl'.1 b e'
     rw [C0] at h1 h2;omega
  subst hab
  congr 1
  refine Cg hl'.2 hm'.2 fun c=>⟨fun hc=>?_,fun hc=>?_⟩
  ·rcases List.mem_cons.1 ((h c).1 (gEf _ hc)) with e | e
   ·subst e;have:=hl'.1 c hc;rw [Ef] at this;cases this
   ·exact e
  ·rcases List.mem_cons.1 ((h c).2 (gEf _ hc)) with e | e
   ·subst e;have:=hm'.1 c hc;rw [Ef] at this;cases this
   ·exact e
def WV (a b:Ar):Prop:=WK b a=false
theorem LD (p:Ar) (l:List Ar) (a:Ar):a∈p :: DC p l↔a∈p :: l:=by
 induction l generalizing p with
 | nil=>simp [DC]
 | cons y ys ih=>
  unfold DC
  split
  ·rename_i h;subst h;rw [ih];simp
  have:=ih y
  simp only [List.mem_cons] at this ⊢
  rw [this]
theorem Hn (p:Ar) (l:List Ar) (h:(p :: l).Pairwise WV):SortA (p :: DC p l):=by
 induction l generalizing p with
 | nil=>simp [DC,SortA]
 | cons y ys ih=>
  have h1:=List.pairwise_cons.1 h
  have h2:=List.pairwise_cons.1 h1.2
  unfold DC
  split
  ·rename_i e;subst e
   exact ih _ (List.pairwise_cons.2 ⟨fun a ha=>h2.1 a ha,h2.2⟩)
  rename_i e
  have hy:=ih y h1.2
  refine List.pairwise_cons.2 ⟨fun a ha=>?_,hy⟩
  have hpy:WK p y=true:=by
   have:=h1.1 y (by simp)
   rcases Hh p y with h | h | h
   ·exact h
   ·exact absurd h.symm e
   unfold WV at this;rw [h] at this;cases this
  rcases List.mem_cons.1 ha with rfl | ha
  ·exact hpy
  exact D7 hpy ((List.pairwise_cons.1 hy).1 a ha)
theorem B9 (r:List Ar):SortA (Cq r):=by
 unfold Cq
 have:∀ (l acc:List Ar),SortA acc->SortA (l.foldl (fun acc a=>D1 a acc) acc):=by
  intro l
  induction l with
  | nil=>intro acc h;exact h
  | cons x xs ih=>intro acc h;exact ih _ (Ii h)
 exact this r [] List.Pairwise.nil
theorem N1 {r q:List Ar} (hp:q.Perm r) (h:q.Pairwise WV):PD q=Cq r:=by
 refine Cg ?_ (B9 r) fun a=>?_
 ·cases q with
  | nil=>exact List.Pairwise.nil
  | cons x xs=>exact Hn x xs h
 rw [C8,<- hp.mem_iff]
 cases q with
 | nil=>simp [PD]
 | cons x xs=>exact LD x xs a
theorem LE {r q:List Ar} (h:r.Nodup) (hp:q.Perm r) (h1:q.Pairwise WV):q=Cq r:=by
 refine Cg ?_ (B9 r) fun a=>by rw [C8,hp.mem_iff]
 have h2:=hp.symm.nodup h
 refine (List.pairwise_iff_forall_sublist.2 ?_)
 intro a b hab
 have hle:=List.pairwise_iff_forall_sublist.1 h1 hab
 have hne:=List.pairwise_iff_forall_sublist.1 h2 hab
 rcases Hh a b with h | h | h
 ·exact h
 ·exact absurd h hne
 unfold WV at hle;rw [h] at hle;cases hle
def Eh : List Ar -> List Int -> List Int -> List Int × List Int × List Ar
 | [], num, old => (num, old, [])
 | a :: tl, num, old =>
  ((Eh tl (AX num old a.2).1 (AX num old a.2).2).1, (Eh tl (AX num old a.2).1 (AX num old a.2).2).2.1,
   (a.1, (AX num old a.2).1.getD a.2.toNat 0) :: (Eh tl (AX num old a.2).1 (AX num old a.2).2).2.2)
theorem LF (r:List Ar) (num old:List Int) (nxt:List Ar):
  Cr r num old nxt=((Eh r num old).1,(Eh r num old).2.1,(Eh r num old).2.2.foldl (fun acc a=>D1 a acc) nxt):=by
 induction r generalizing num old nxt with
 | nil=>rfl
 | cons a tl ih=>simp only [Cr,Eh,ih,List.foldl_cons]
structure NumInj (num old:List Int):Prop where
 inj:∀ (t:Nat) (x:Int),num[t]?=some x->0<=x->old[x.toNat]?=some (t:Int)
theorem NumInj.one {num old:List Int} (h:NumInj num old) {t:Int} (h0:0<=t) (h1:t<num.length):NumInj (AX num old t).1 (AX num old t).2:=by
 unfold AX
 split
 rotate_left
 ·exact h
 refine ⟨fun s x hx hp=>?_⟩
 rw [List.getElem?_set] at hx
 split at hx
 ·rename_i hs
  rw [if_pos (by omega)] at hx
  injection hx with hx
  subst hx
  simp
  omega
 have:=h.inj s x hx hp
 rw [gEa (List.getElem?_eq_some_iff.1 this).1]
 exact this
theorem GV (num old:List Int) (t:Int):(AX num old t).1.length=num.length:=by unfold AX;split <;> simp
theorem Jg {num old:List Int} {t:Int} {s:Nat} {x:Int} (h0:0<=t) (hx:num[s]?=some x) (hp:0<=x):(AX num old t).1[s]?=some x:=by
 unfold AX
 split
 rotate_left
 ·exact hx
 rename_i hneg
 simp only [List.getElem?_set]
 split
 rotate_left
 ·exact hx
 rename_i hs
 subst hs
 simp [List.getD,hx] at hneg
 omega
theorem N2 {num old:List Int} {t:Int} (h0:0<=t) (h1:t<num.length):∃ x,(AX num old t).1[t.toNat]?=some x/\0<=x:=by
 unfold AX
 split
 ·exact ⟨_,by rw [List.getElem?_set,if_pos rfl,if_pos (by omega)],by omega⟩
 rename_i hneg
 have hl:t.toNat<num.length:=by omega
 refine ⟨num[t.toNat],gE1 hl,?_⟩
 simpa [List.getD,gE1 hl] using hneg
theorem N3 (r:List Ar) {num old:List Int} (hr:∀ a∈r,0<=a.2) {s:Nat} {x:Int} (hx:num[s]?=some x) (hp:0<=x):(Eh r num old).1[s]?=some x:=by
 induction r generalizing num old with
 | nil=>exact hx
 | cons a tl ih=>exact ih (fun b hb=>hr b (by simp [hb])) (Jg (hr a (by simp)) hx hp)
theorem Kl (r:List Ar) {num old:List Int} (hr:∀ a∈r,0<=a.2/\a.2<num.length) (h:NumInj num old):NumInj (Eh r num old).1 (Eh r num old).2.1:=by
 induction r generalizing num old with
 | nil=>exact h
 | cons a tl ih=>
  have ha:=hr a (by simp)
  exact ih (fun b hb=>by rw [GV];exact hr b (by simp [hb])) (h.one ha.1 ha.2)
theorem PE (r:List Ar) {num old:List Int} (hr:∀ a∈r,0<=a.2/\a.2<num.length):
  (Eh r num old).2.2=r.map (fun a=>(a.1,(Eh r num old).1.getD a.2.toNat 0))/\∀ a∈r,∃ x,(Eh r num old).1[a.2.toNat]?=some x/\0<=x:=by
 induction r generalizing num old with
 | nil=>exact ⟨rfl,by simp⟩
 | cons a tl ih=>
  have ha:=hr a (by simp)
  obtain ⟨i1,i2⟩:=ih (num:=(AX num old a.2).1) (old:=(AX num old a.2).2) (fun b hb=>by rw [GV];exact hr b (by simp [hb]))
  obtain ⟨x,hx,hp⟩:=N2 (old:=old) ha.1 ha.2
  have hk:=N3 (old:=(AX num old a.2).2) tl (fun b hb=>(hr b (by simp [hb])).1) hx hp
  refine ⟨?_,fun b hb=>?_⟩
  ·simp only [Eh,List.map_cons]
   congr 1
   simp [List.getD,hx,hk]
  rcases List.mem_cons.1 hb with rfl | hb
  ·exact ⟨x,hk,hp⟩
  exact i2 b hb
theorem LG (r:List Ar) {num old:List Int} (hs:SortA r) (hr:∀ a∈r,0<=a.2/\a.2<num.length) (h:NumInj num old):(Eh r num old).2.2.Nodup:=by
 obtain ⟨h1,h2⟩:=PE (old:=old) r hr
 have hi:=Kl r hr h
 rw [h1,List.Nodup,List.pairwise_map]
 have hnd:r.Pairwise (· ≠ ·):=hs.imp (fun {a b} hab e=>by subst e;rw [Ef] at hab;cases hab)
 refine hnd.imp_of_mem (fun {a b} ha hb hne e=>hne ?_)
 obtain ⟨x,hx,hxp⟩:=h2 a ha
 obtain ⟨y,hy,hyp⟩:=h2 b hb
 have ha':=hr a ha
 have hb':=hr b hb
 simp only [Prod.mk.injEq,List.getD,hx,hy,Option.getD_some] at e
 obtain ⟨e1,e2⟩:=e
 subst e2
 have q1:=hi.inj _ _ hx hxp
 have q2:=hi.inj _ _ hy hxp
 rw [q1] at q2
 injection q2 with q2
 rcases a with ⟨a1,a2⟩
 rcases b with ⟨b1,b2⟩
 simp only at *
 have:a2=b2:=by omega
 rw [e1,this]
theorem NumInj.start {n:Nat} (hn:0<n):NumInj ((List.replicate n (-1)).set 0 0) [0]:=⟨fun t x hx hp=>by
 rw [List.getElem?_set] at hx
 split at hx
 ·rename_i h
  subst h
  simp [hn] at hx
  subst hx;rfl
 ·rw [List.getElem?_replicate] at hx
  split at hx
  ·cases hx;omega
  ·cases hx⟩

theorem PF {tl:List Ar} {num old:List Int} {e x:Int} {tn L:Nat} (hx:num[tn]?=some x) (hneg:x<0) (hL:old.length=L):
  Eh ((e,(tn:Int)) :: tl) num old=((Eh tl (num.set tn L) (old++[(tn:Int)])).1,(Eh tl (num.set tn L) (old++[(tn:Int)])).2.1,(e,(L:Int)) :: (Eh tl (num.set tn L) (old++[(tn:Int)])).2.2):=by
 have hl:tn<num.length:=(List.getElem?_eq_some_iff.1 hx).1
 have h1:AX num old (tn:Int)=(num.set tn L,old++[(tn:Int)]):=by
  simp only [AX,Int.toNat_natCast,List.getD,hx,Option.getD_some,if_pos hneg,hL]
 simp only [Eh,h1,Int.toNat_natCast]
 simp [List.getD,hl]
theorem PG {tl:List Ar} {num old:List Int} {e x:Int} {tn:Nat} (hx:num[tn]?=some x) (hpos:¬ x<0):
  Eh ((e,(tn:Int)) :: tl) num old=((Eh tl num old).1,(Eh tl num old).2.1,(e,x) :: (Eh tl num old).2.2):=by
 have h1:AX num old (tn:Int)=(num,old):=by
  simp only [AX,Int.toNat_natCast,List.getD,hx,Option.getD_some,if_neg hpos]
 simp only [Eh,h1,Int.toNat_natCast,List.getD,hx,Option.getD_some]
def NL (R:List Int × List Int × List Ar) (ya q:List Ar) (k:Nat) (num old:List Int):Prop:=
 ya.take k++(Eh (q.drop k) num old).2.2=R.2.2/\(Eh (q.drop k) num old).1=R.1/\(Eh (q.drop k) num old).2.1=R.2.1/\ya.drop k=q.drop k
theorem NL.neg {R:List Int × List Int × List Ar} {ya q:List Ar} {k:Nat} {num old:List Int} {e x:Int} {tn L:Nat} (h:NL R ya q k num old) (hk:ya[k]?=some (e,(tn:Int))) (hx:num[tn]?=some x) (hneg:x<0) (hL:old.length=L):
  NL R (ya.set k (e,(L:Int))) q (k+1) (num.set tn L) (old++[(tn:Int)]):=by
 obtain ⟨h1,h2,h3,h4⟩:=h
 have hl:=(List.getElem?_eq_some_iff.1 hk).1
 have hd:q.drop k=(e,(tn:Int)) :: q.drop (k+1):=by
  have h5:ya.drop k=(e,(tn:Int)) :: ya.drop (k+1):=by
   rw [List.drop_eq_getElem_cons hl];congr 1
   rw [gE1 hl] at hk;exact Option.some.inj hk
  have h6:=congrArg (List.drop 1) h4
  rw [List.drop_drop,List.drop_drop] at h6
  rw [<- h4,h5,h6]
 rw [hd,PF hx hneg hL] at h1 h2 h3
 refine ⟨?_,h2,h3,?_⟩
 ·rw [<- h1,List.take_add_one,List.take_set_of_le (Nat.le_refl k)]
  simp [List.getElem?_set,hl]
 rw [List.drop_set,if_pos (by omega)]
 have h6:=congrArg (List.drop 1) h4
 rwa [List.drop_drop,List.drop_drop] at h6
theorem NL.pos {R:List Int × List Int × List Ar} {ya q:List Ar} {k:Nat} {num old:List Int} {e x:Int} {tn:Nat} (h:NL R ya q k num old) (hk:ya[k]?=some (e,(tn:Int))) (hx:num[tn]?=some x) (hpos:¬ x<0):
  NL R (ya.set k (e,x)) q (k+1) num old:=by
 obtain ⟨h1,h2,h3,h4⟩:=h
 have hl:=(List.getElem?_eq_some_iff.1 hk).1
 have hd:q.drop k=(e,(tn:Int)) :: q.drop (k+1):=by
  have h5:ya.drop k=(e,(tn:Int)) :: ya.drop (k+1):=by
   rw [List.drop_eq_getElem_cons hl];congr 1
   rw [gE1 hl] at hk;exact Option.some.inj hk
  have h6:=congrArg (List.drop 1) h4
  rw [List.drop_drop,List.drop_drop] at h6
  rw [<- h4,h5,h6]
 rw [hd,PG hx hpos] at h1 h2 h3
 refine ⟨?_,h2,h3,?_⟩
 ·rw [<- h1,List.take_add_one,List.take_set_of_le (Nat.le_refl k)]
  simp [List.getElem?_set,hl]
 rw [List.drop_set,if_pos (by omega)]
 have h6:=congrArg (List.drop 1) h4
 rwa [List.drop_drop,List.drop_drop] at h6


def WW (f:Nat->Nat) (c:Nat) (o:List (List Ar)) (a:Ar):List (List Ar):=o.set c (o.getD c []++[(a.1,(f a.2.toNat:Int))])
def US (f:Nat->Nat) (c:Nat) (o:List (List Ar)) (row:List Ar):List (List Ar):=row.foldl (WW f c) o
theorem RX (f:Nat->Nat) (c:Nat) (o:List (List Ar)) (a:Ar):(WW f c o a).length=o.length:=by simp [WW]
theorem Rc.lt {E:Nat->List Nat} {n u v:Nat} (h:Rc E u v) (hu:u<n) (hE:∀ x,x<n->∀ y∈E x,y<n):v<n:=by
 induction h with
 | refl=>exact hu
 | tail _ he ih=>exact hE _ ih _ he
theorem Cw {R:List (List Ar)} (t:Bool) (hv:BE R=true):∀ x,x<R.length->∀ y∈WP t R x,y<R.length:=by
 intro x hx y hy
 unfold WP at hy
 rw [gE2,gE1 hx,Option.getD_some] at hy
 obtain ⟨a,ha,rfl⟩:=List.mem_map.1 hy
 have h1:a∈R[x]:=by
  unfold BR at ha
  split at ha
  ·exact (List.takeWhile_sublist _).subset ha
  exact ha
 have h2:=(gE4 hv).2.2.2 _ (gE6 hx) a h1
 omega
theorem aK (o:List (List Ar)) {c:Nat} (h:c<o.length) (x:Ar):Bw (o.set c (o.getD c []++[x]))=Bw o+1:=by
 induction o generalizing c with
 | nil=>simp at h
 | cons a r ih=>
  cases c with
  | zero=>simp [Bw];omega
  | succ c=>
   have:=ih (c:=c) (by simpa using h)
   simp only [List.set_cons_succ,List.getD_cons_succ]
   simp only [Bw,List.map_cons,List.sum_cons] at this ⊢
   omega
theorem PH (o:List (List Ar)) (c:Nat):(o.getD c []).length<=Bw o:=by
 induction o generalizing c with
 | nil=>simp
 | cons a r ih=>
  cases c with
  | zero=>simp [Bw]
  | succ c=>
   have:=ih c
   simp only [List.getD_cons_succ]
   simp only [Bw,List.map_cons,List.sum_cons] at this ⊢
   omega
theorem ac (m:Nat):Bw (List.replicate m [])=0:=by
 unfold Bw
 rw [List.map_replicate,List.sum_replicate_nat];simp
def TlP (m:Nat) (o:List (List Ar)):Prop:=∀ r∈o,∀ a∈r,0<=a.1/\a.1<=1025/\0<=a.2/\a.2<(m:Int)
theorem TlP.one {f:Nat->Nat} {m c:Nat} {o:List (List Ar)} {a:Ar} (h:TlP m o) (ha:0<=a.1/\a.1<=1025) (hf:f a.2.toNat<m):TlP m (WW f c o a):=by
 intro r hr b hb
 rcases List.mem_or_eq_of_mem_set hr with h1 | h1
 ·exact h r h1 b hb
 subst h1
 rcases List.mem_append.1 hb with h2 | h2
 rotate_left
 ·simp at h2;subst h2
  exact ⟨ha.1,ha.2,by simp only;omega,by simp only;omega⟩
 rw [gE2] at h2
 rcases Nat.lt_or_ge c o.length with h3 | h3
 rotate_left
 ·rw [List.getElem?_eq_none h3] at h2;simp at h2
 rw [gE1 h3,Option.getD_some] at h2
 exact h _ (gE6 h3) b h2
theorem LH {r:List Ar} (hs:SortA r) (h0:∀ a∈r,0<=a.1) (t:Bool):Hl t r=BR t r:=by
 cases t with
 | false=>unfold Hl BR;simp
 | true=>
  unfold Hl BR
  rw [if_pos rfl]
  simp only [Bool.not_true,Bool.false_or]
  induction r with
  | nil=>rfl
  | cons a r ih=>
   have hs2:=List.pairwise_cons.1 hs
   by_cases h:(a.1 == 0)=true
   ·rw [List.filter_cons,if_pos h,List.takeWhile_cons,if_pos h,ih hs2.2 fun b hb=>h0 b (gEf _ hb)]
   rw [List.filter_cons,if_neg h,List.takeWhile_cons,if_neg h]
   refine List.filter_eq_nil_iff.2 fun b hb=>?_
   have h1:=hs2.1 b hb
   rw [C0] at h1
   have h2:=h0 a List.mem_cons_self
   have h3:a.1 ≠ 0:=fun e=>h (by simp [e])
   have:b.1 ≠ 0:=by omega
   simpa using this
theorem Km {R:List (List Ar)} (t:Bool) (hv:Bv R=true):LA t R=WP t R:=by
 funext v
 unfold LA WP
 rcases Nat.lt_or_ge v R.length with h | h
 rotate_left
 ·rw [gE2,List.getElem?_eq_none h,Option.getD_none]
  cases t <;> rfl
 rw [gE2,gE1 h,Option.getD_some]
 have h2:=gE4 hv
 rw [LH (h2.2 _ (gE6 h)) fun a ha=>(h2.1.2.2.2 _ (gE6 h) a ha).1]
theorem Least.uniq {E:Nat->List Nat} {v:Nat} {x y:Int} (h1:Least E v x) (h2:Least E v y):x=y:=by
 obtain ⟨m,a1,a2,a3,a4⟩:=h1
 obtain ⟨k,b1,b2,b3,b4⟩:=h2
 have:=a4 k b2 b3
 have:=b4 m a2 a3
 omega
open Go.RowKit
set_option maxRecDepth 100000
attribute [local go_sem] lga C.pl C.one
def Bd (L:List (List Int)):List C:=L.map fun r=>C.o (1,3) (Ab r)
theorem BB (L:List (List Int)):(Bd L).length=L.length:=by simp [Bd]
theorem F3 (L:List (List Int)) (i:Nat) (x:List Int):(Bd L).set i (.o (1,3) (Ab x))=Bd (L.set i x):=by simp [Bd,List.map_set]
theorem D9 (f:List Nat) (L:List (List Int)):(Bd L).map (C.ren f)=Bd L:=by simp [Bd,C.ren,Function.comp_def]
def RowOk (E:Nat->List Nat) (n j:Nat) (L:List Int):Prop:=∃ B:List Bool,B.length=n/\(∀ u,Bu B u=true↔Rc E j u)/\L=((List.range n).filter (Bu B)).map Int.ofNat
theorem RowOk.mem {E:Nat->List Nat} {n j:Nat} {L:List Int} (h:RowOk E n j L) {u:Nat} (hu:u<n):(u:Int)∈L↔Rc E j u:=by
 obtain ⟨B,_,h2,rfl⟩:=h
 rw [FI,List.mem_filter,List.mem_range,h2]
 exact ⟨fun h=>h.2,fun h=>⟨hu,h⟩⟩
theorem RowOk.len {E:Nat->List Nat} {n j:Nat} {L:List Int} (h:RowOk E n j L):L.length<=n:=by
 obtain ⟨B,_,h2,rfl⟩:=h
 rw [List.length_map]
 have:=List.length_filter_le (Bu B) (List.range n)
 simpa using this
def Dv (R:List (List Ar)) (s:Nat):Prop:=∃ g,Rc (WP true R) s g/\∃ w,w∈WP true R g/\Rc (WP true R) w g
def WX (s:Nat) (o:List (List Int)) (a:Ar):List (List Int):=o.set a.2.toNat (o.getD a.2.toNat []++[(s:Int)])
def DZ (s:Nat) (o:List (List Int)) (row:List Ar):List (List Int):=row.foldl (WX s) o
def WY (R:List (List Ar)):Nat->List (List Int)
 | 0=>List.replicate R.length []
 | k+1=>DZ k (WY R k) (BR true (R.getD k []))
def M9 (o:List (List Int)):Nat:=(o.map List.length).sum
theorem Jh (s:Nat) (o:List (List Int)) (a:Ar):(WX s o a).length=o.length:=by simp [WX]
theorem Ip (s:Nat) (row:List Ar):∀ o,(DZ s o row).length=o.length:=by
 induction row with
 | nil=>intro o;rfl
 | cons a r ih=>intro o;show (DZ s (WX s o a) r).length=_;rw [ih,Jh]
theorem Gk (R:List (List Ar)) (k:Nat):(WY R k).length=R.length:=by
 induction k with
 | zero=>simp [WY]
 | succ k ih=>rw [WY,Ip,ih]
theorem LI (s:Nat) (o:List (List Int)) (row:List Ar) (a:Ar):DZ s o (row++[a])=WX s (DZ s o row) a:=by unfold DZ;rw [List.foldl_append];rfl
theorem PI (o:List (List Int)) {c:Nat} (h:c<o.length) (x:Int):M9 (o.set c (o.getD c []++[x]))=M9 o+1:=by
 induction o generalizing c with
 | nil=>simp at h
 | cons y r ih=>
  cases c with
  | zero=>simp [M9];omega
  | succ c=>
   have:=ih (c:=c) (by simpa using h)
   simp only [List.set_cons_succ,List.getD_cons_succ]
   simp only [M9,List.map_cons,List.sum_cons] at this ⊢
   omega
theorem Kn (o:List (List Int)) (c:Nat):(o.getD c []).length<=M9 o:=by
 induction o generalizing c with
 | nil=>simp
 | cons y r ih=>
  cases c with
  | zero=>simp [M9]
  | succ c=>
   have:=ih c
   simp only [List.getD_cons_succ]
   simp only [M9,List.map_cons,List.sum_cons] at this ⊢
   omega
theorem N5 (s:Nat) (row:List Ar):∀ o:List (List Int),(∀ a∈row,a.2.toNat<o.length)->M9 (DZ s o row)=M9 o+row.length:=by
 induction row with
 | nil=>intro o _;rfl
 | cons a r ih=>
  intro o h
  show M9 (DZ s (WX s o a) r)=_
  rw [ih _ (by rw [Jh];exact fun b hb=>h b (gEf _ hb))]
  unfold WX
  rw [PI o (h a (by simp))]
  simp only [List.length_cons];omega
theorem RY {s t:Nat} {o:List (List Int)} {a:Ar} {x:Int} (h:a.2.toNat<o.length):x∈(WX s o a).getD t []↔x∈o.getD t []\/(a.2.toNat=t/\x=(s:Int)):=by
 unfold WX
 rw [gE2]
 by_cases e:a.2.toNat=t
 rotate_left
 ·rw [gE5 e,<- gE2]
  simp [e]
 subst e
 rw [gEc h,Option.getD_some,List.mem_append]
 simp
theorem N6 {s t:Nat} {x:Int}:∀ (row:List Ar) (o:List (List Int)),(∀ a∈row,a.2.toNat<o.length)->(x∈(DZ s o row).getD t []↔x∈o.getD t []\/(x=(s:Int)/\t∈row.map fun a=>a.2.toNat)):=by
 intro row
 induction row with
 | nil=>intro o _;simp [DZ]
 | cons a r ih=>
  intro o h
  show x∈(DZ s (WX s o a) r).getD t []↔_
  rw [ih _ (by rw [Jh];exact fun b hb=>h b (gEf _ hb)),RY (h a (by simp))]
  simp only [List.map_cons,List.mem_cons]
  constructor
  rotate_left
  ·rintro (h | ⟨h1,h2 | h2⟩)
   ·exact .inl (.inl h)
   ·exact .inl (.inr ⟨h2.symm,h1⟩)
   exact .inr ⟨h1,h2⟩
  rintro ((h | ⟨h1,h2⟩) | ⟨h1,h2⟩)
  ·exact .inl h
  ·exact .inr ⟨h2,.inl h1.symm⟩
  exact .inr ⟨h1,.inr h2⟩
theorem N7 {t:Bool} {r:List Ar}:∀ a∈BR t r,a∈r:=fun a ha=>by
 unfold BR at ha
 split at ha
 ·exact (List.takeWhile_sublist _).subset ha
 ·exact ha
theorem Gl (t:Bool) (r:List Ar):(BR t r).length<=r.length:=by
 unfold BR
 split
 ·exact (List.takeWhile_sublist _).length_le
 exact Nat.le_refl _
theorem Iq {R:List (List Ar)} (hlo:BE R=true) {k:Nat}:∀ a∈BR true (R.getD k []),0<=a.2/\a.2.toNat<R.length:=fun a ha=>by
 have h1:=N7 a ha
 rcases Nat.lt_or_ge k R.length with h | h
 ·rw [gE2,gE1 h] at h1
  have:=(gE4 hlo).2.2.2 _ (gE6 h) a h1
  omega
 ·rw [gE2,List.getElem?_eq_none h] at h1;simp at h1
theorem RZ {R:List (List Ar)} (hlo:BE R=true) {t:Nat} {x:Int}:∀ k,x∈(WY R k).getD t []↔∃ s,s<k/\x=(s:Int)/\t∈WP true R s:=by
 intro k
 induction k with
 | zero=>
  simp only [WY,gE2,List.getElem?_replicate]
  split <;> simp
 | succ k ih=>
  rw [WY,N6 _ _ (by rw [Gk];exact fun a ha=>(Iq hlo a ha).2),ih]
  constructor
  ·rintro (⟨s,h1,h2,h3⟩ | ⟨h1,h2⟩)
   ·exact ⟨s,by omega,h2,h3⟩
   exact ⟨k,by omega,h1,h2⟩
  rintro ⟨s,h1,h2,h3⟩
  by_cases e:s=k
  ·subst e;exact .inr ⟨h2,h3⟩
  exact .inl ⟨s,by omega,h2,h3⟩
theorem Ko {R:List (List Ar)} (hlo:BE R=true):∀ k,k<=R.length->M9 (WY R k)<=Bw (R.take k):=by
 intro k
 induction k with
 | zero=>intro _;simp [WY,M9,Bw]
 | succ k ih=>
  intro hk
  have h1:=ih (by omega)
  have h2:=Cj (R:=R) (k:=k) hk
  have h3:=Gl true (R.getD k [])
  have h4:R.getD k []=R[k]:=by rw [gE2,gE1 hk];rfl
  rw [WY,N5 _ _ _ (by rw [Gk];exact fun a ha=>(Iq hlo a ha).2)]
  rw [h4] at h3 ⊢
  omega
structure Bq (E:Nat->List Nat) (n:Nat) (G:Nat->Prop) (O:List Int) (Q:List Nat):Prop where
 len:O.length=n
 lt:∀ q∈Q,q<n
 nd:Q.Nodup
 iff:∀ s,s<n->(0<=WO O (-1) s↔s∈Q)
 hi:∀ s,WO O (-1) s<=(Q.length:Int)
 rc:∀ q∈Q,∃ g,g<n/\G g/\Rc E q g
section
variable {E : Nat -> List Nat} {n : Nat} {G : Nat -> Prop} {O : List Int} {Q : List Nat}
theorem Bq.qlen (h:Bq E n G O Q):Q.length<=n:=by
 have:=h.nd.length_le_of_subset (l₂:=List.range n) fun q hq=>List.mem_range.2 (h.lt q hq)
 simpa using this
theorem Bq.start (E:Nat->List Nat) (n:Nat) (G:Nat->Prop):Bq E n G (List.replicate n (-1)) []:=by
 refine ⟨by simp,by simp,List.nodup_nil,fun s hs=>?_,fun s=>?_,by simp⟩
 ·rw [C1 (by simpa using hs)];simp
 unfold WO
 rw [List.getElem?_replicate]
 split <;> simp
theorem Bq.push (h:Bq E n G O Q) {s:Nat} (hs:s<n) (hq:s ∉ Q) {v:Int} (h0:0<=v) (h1:v<=(Q.length:Int)+1) (hr:∃ g,g<n/\G g/\Rc E s g):Bq E n G (O.set s v) (Q++[s]):=by
 have hl:=h.len
 refine ⟨by simp [hl],fun q hq=>?_,?_,fun t ht=>?_,fun t=>?_,fun q hq=>?_⟩
 rotate_left 4
 ·rcases List.mem_append.1 hq with h2 | h2
  ·exact h.rc q h2
  simp at h2;subst h2;exact hr
 ·rcases List.mem_append.1 hq with h2 | h2
  ·exact h.lt q h2
  simp at h2;subst h2;exact hs
 ·rw [List.nodup_append]
  exact ⟨h.nd,by simp,fun a ha b hb=>by simp at hb;subst hb;intro e;subst e;exact hq ha⟩
 ·rw [DB (by omega)]
  unfold upd
  split
  ·rename_i e;subst e;simp [h0]
  rename_i e;rw [h.iff t ht];simp [e]
 rw [DB (by omega)]
 unfold upd
 simp only [List.length_append,List.length_singleton]
 split
 ·omega
 have:=h.hi t;omega
theorem Bq.done (h:Bq E n G O Q) (hE:∀ x,x<n->∀ y∈E x,y<n) (hg:∀ g,g<n->G g->g∈Q) (hc:∀ q∈Q,∀ p,p<n->q∈E p->p∈Q) {s:Nat} (hs:s<n):0<=WO O (-1) s↔∃ g,g<n/\G g/\Rc E s g:=by
 rw [h.iff s hs]
 constructor
 ·exact h.rc s
 rintro ⟨g,h1,h2,h3⟩
 have key:∀ x,Rc E s x->x∈Q->s∈Q:=by
  intro x hx
  induction hx with
  | refl=>exact id
  | tail hv hw ih=>exact fun hq=>ih (hc _ hq _ (hv.lt hs hE) hw)
 exact key g h3 (hg g h1 h2)
end
def WZ (D:List Int) (s:Nat) (row:List Ar):Bool:=row.any fun a=>decide (D.getD a.2.toNat 0=D.getD s 0)
def X1 (R:List (List Ar)) (D:List Int) (k:Nat):List Bool:=(List.range k).map fun s=>WZ D s (BR true (R.getD s []))
theorem F4 (R:List (List Ar)) (D:List Int) (k:Nat):(X1 R D k).length=k:=by simp [X1]
theorem PJ (D:List Int) (s:Nat) (row:List Ar) (a:Ar):WZ D s (row++[a])=(WZ D s row || decide (D.getD a.2.toNat 0=D.getD s 0)):=by simp [WZ]
theorem N8 {R:List (List Ar)} {D:List Int} (hlo:BE R=true) (hD:D.length=R.length) (hL:∀ v,v<R.length->Least (WP true R) v (WO D (-1) v)) {g:Nat} (hg:g<R.length):(X1 R D R.length).getD g false=true↔∃ w,w∈WP true R g/\Rc (WP true R) w g:=by
 have e1:(X1 R D R.length).getD g false=WZ D g (BR true (R.getD g [])):=by simp [X1,gE2,hg]
 have hE:=Cw true hlo
 have hd:∀ v,v<R.length->D.getD v 0=WO D (-1) v:=fun v hv=>by rw [C1 (by omega),gE2,gE1 (by omega)];rfl
 rw [e1]
 unfold WZ
 rw [List.any_eq_true]
 simp only [decide_eq_true_eq]
 constructor
 ·rintro ⟨a,ha,e⟩
  have hw:a.2.toNat∈WP true R g:=List.mem_map.2 ⟨a,ha,rfl⟩
  have hwl:=hE g hg _ hw
  rw [hd _ hwl,hd _ hg] at e
  obtain ⟨x,ex,p1,p2,_⟩:=hL _ hwl
  obtain ⟨y,ey,q1,q2,_⟩:=hL _ hg
  have:x=y:=by omega
  subst this
  exact ⟨_,hw,p1.trans q2⟩
 rintro ⟨w,hw,hr⟩
 obtain ⟨a,ha,rfl⟩:=List.mem_map.1 hw
 refine ⟨a,ha,?_⟩
 have hwl:=hE g hg _ hw
 rw [hd _ hwl,hd _ hg]
 obtain ⟨x,ex,p1,p2,p3⟩:=hL _ hwl
 obtain ⟨y,ey,q1,q2,q3⟩:=hL _ hg
 have hgw:Rc (WP true R) g a.2.toNat:=.one hw
 have l1:=p3 y (hr.trans q1) (q2.trans hgw)
 have l2:=q3 x (hgw.trans p1) (p2.trans hr)
 omega
def DvL (R:List (List Ar)) (B:List Bool):Prop:=B.length=R.length/\∀ s,s<R.length->(B.getD s false=true↔Dv R s)
theorem DvL.uniq {R:List (List Ar)} {A B:List Bool} (h1:DvL R A) (h2:DvL R B):A=B:=by
 refine List.ext_getElem (by rw [h1.1,h2.1]) fun i hi hj=>?_
 have a:=h1.2 i (by have:=h1.1;omega)
 have b:=h2.2 i (by have:=h1.1;omega)
 rw [gE2,gE1 hi,Option.getD_some] at a
 rw [gE2,gE1 hj,Option.getD_some] at b
 rw [Bool.eq_iff_iff,a,b]
abbrev Ed:=Nat × Nat
def Xw (f:Nat->Nat) (s:Nat) (a:Ar):Option Ed:=if a.1=0/\f s ≠ f a.2.toNat then some (f s,f a.2.toNat) else none
def Xx (f:Nat->Nat) (s:Nat) (row:List Ar):List Ed:=row.filterMap (Xw f s)
def Xy (f:Nat->Nat) (R:List (List Ar)) (k:Nat):List Ed:=(List.range k).flatMap fun s=>Xx f s (R.getD s [])
theorem PZ (f:Nat->Nat) (s:Nat) (row:List Ar) (a:Ar):Xx f s (row++[a])=Xx f s row++(Xw f s a).toList:=by
 unfold Xx
 rw [List.filterMap_append]
 cases h:Xw f s a <;> simp [h]
theorem KM (f:Nat->Nat) (R:List (List Ar)) (k:Nat):Xy f R (k+1)=Xy f R k++Xx f k (R.getD k []):=by simp [Xy,List.range_succ]
theorem Fb {f:Nat->Nat} {R:List (List Ar)} {k:Nat} {e:Ed}:e∈Xy f R k↔∃ s,s<k/\∃ a∈R.getD s [],a.1=0/\f s ≠ f a.2.toNat/\e=(f s,f a.2.toNat):=by
 unfold Xy Xx
 simp only [List.mem_flatMap,List.mem_range,List.mem_filterMap]
 constructor
 rotate_left
 ·rintro ⟨s,hs,a,ha,h1,h2,rfl⟩
  exact ⟨s,hs,a,ha,by unfold Xw;rw [if_pos ⟨h1,h2⟩]⟩
 rintro ⟨s,hs,a,ha,h⟩
 unfold Xw at h
 split at h
 rotate_left
 ·cases h
 rename_i hc
 injection h with h
 exact ⟨s,hs,a,ha,hc.1,hc.2,h.symm⟩
theorem ND (f:Nat->Nat) (R:List (List Ar)):∀ k,k<=R.length->(Xy f R k).length<=Bw (R.take k):=by
 intro k
 induction k with
 | zero=>intro _;simp [Xy,Bw]
 | succ k ih=>
  intro hk
  have h1:=ih (by omega)
  have h2:=Cj (R:=R) (k:=k) hk
  have h3:R.getD k []=R[k]:=by rw [gE2,gE1 hk];rfl
  have h4:=List.length_filterMap_le (Xw f k) R[k]
  rw [KM,List.length_append,h3]
  unfold Xx
  omega
def Xz (E:List Ed) (c:Nat):Nat:=E.countP fun e=>e.1 == c
def XA (n:Nat) (E:List Ed):List Int:=(List.range n).map fun c=>(Xz E c:Int)
def XC (E:List Ed) (t:Nat):List Nat:=(E.filter fun e=>e.2 == t).map (·.1)
def En (n:Nat) (E:List Ed):List (List Int):=(List.range n).map fun t=>(XC E t).map Int.ofNat
theorem Gr (n:Nat) (E:List Ed):(XA n E).length=n:=by simp [XA]
theorem Hq {n:Nat} {E:List Ed} {c:Nat} (h:c<n):(XA n E)[c]?=some (Xz E c:Int):=by simp [XA,h]
theorem FL (n:Nat) (E:List Ed):(En n E).length=n:=by simp [En]
theorem KN {n:Nat} {E:List Ed} {t:Nat} (h:t<n):(En n E)[t]?=some ((XC E t).map Int.ofNat):=by simp [En,h]
theorem Q0 (E:List Ed) (c t d:Nat):Xz (E++[(c,t)]) d=Xz E d+if c=d then 1 else 0:=by
 unfold Xz
 rw [List.countP_append]
 by_cases h:c=d <;> simp [h]
theorem Q1 {n:Nat} {E:List Ed} {c t:Nat} (h:c<n):(XA n E).set c ((Xz E c:Int)+1)=XA n (E++[(c,t)]):=by
 refine List.ext_getElem (by simp [XA]) fun i h1 h2=>?_
 rw [Gr] at h2
 have e2:(XA n (E++[(c,t)]))[i]'(by rw [Gr];exact h2)=(Xz (E++[(c,t)]) i:Int):=by simp [XA]
 rw [e2,Q0,List.getElem_set]
 by_cases e:c=i
 ·subst e;simp
 rw [if_neg e,if_neg e];simp [XA]
theorem Q2 (E:List Ed) (c t d:Nat):XC (E++[(c,t)]) d=XC E d++if t=d then [c] else []:=by
 unfold XC
 rw [List.filter_append,List.map_append]
 by_cases h:t=d <;> simp [h]
theorem NE {n:Nat} {E:List Ed} {c t:Nat} (h:t<n):(En n E).set t ((XC E t).map Int.ofNat++[(c:Int)])=En n (E++[(c,t)]):=by
 refine List.ext_getElem (by simp [En]) fun i h1 h2=>?_
 rw [FL] at h2
 have e2:(En n (E++[(c,t)]))[i]'(by rw [FL];exact h2)=(XC (E++[(c,t)]) i).map Int.ofNat:=by simp [En]
 rw [e2,Q2,List.getElem_set]
 by_cases e:t=i
 ·subst e;simp
 rw [if_neg e,if_neg e];simp [En]
theorem NF (E:List Ed) (t:Nat):(XC E t).length<=E.length:=by
 unfold XC;rw [List.length_map];exact List.length_filter_le _ _
theorem Re (E:List Ed) (c:Nat):Xz E c<=E.length:=List.countP_le_length
def XD (E:List Ed) (P:List Nat) (c:Nat):Nat:=E.countP fun e=>e.1 == c && decide (e.2∈P)
theorem Rf (E:List Ed) (P:List Nat) (c:Nat):XD E P c<=Xz E c:=List.countP_mono_left fun e _ h=>by simp only [Bool.and_eq_true] at h;exact h.1
theorem KO {E:List Ed} {P:List Nat} {q:Nat} (h:q ∉ P) (c:Nat):XD E (P++[q]) c=XD E P c+(XC E q).countP (· == c):=by
 unfold XD XC
 rw [List.countP_map,List.countP_filter]
 induction E with
 | nil=>rfl
 | cons e r ih=>
  simp only [List.countP_cons,ih]
  by_cases h1:e.1=c
  rotate_left
  ·simp [h1]
  by_cases h2:e.2=q
  rotate_left
  ·by_cases h3:e.2∈P <;> simp [h1,h2,h3];omega
  have h3:e.2 ∉ P:=by rw [h2];exact h
  simp [h1,h2,h];omega
theorem Sf (E:List Ed) (c:Nat):XD E [] c=0:=by simp [XD]
theorem EG {γ:Type} {p q:γ->Bool}:∀ {l:List γ},(∀ x∈l,p x=true->q x=true)->l.countP p=l.countP q->∀ x∈l,q x=true->p x=true
 | [],_,_,x,hx,_=>by simp at hx
 | a :: r,h,e,x,hx,hq=>by
  have hle:=List.countP_mono_left (p:=p) (q:=q) (l:=r) fun y hy=>h y (gEf _ hy)
  rw [List.countP_cons,List.countP_cons] at e
  have ha:=h a (by simp)
  rcases List.mem_cons.1 hx with rfl | hx
  ·cases hp:p x with
   | true=>rfl
   | false=>rw [hp,hq] at e;simp at e;omega
  ·refine EG (fun y hy=>h y (gEf _ hy)) ?_ x hx hq
   cases hp:p a with
   | true=>rw [hp,ha hp] at e;simp at e;exact e
   | false=>
    rw [hp] at e
    cases hqa:q a with
    | true=>rw [hqa] at e;simp at e;omega
    | false=>rw [hqa] at e;simpa using e
theorem Q3 {E:List Ed} {P:List Nat} {c:Nat} (h:XD E P c=Xz E c):∀ e∈E,e.1=c->e.2∈P:=by
 intro e he h1
 have:=EG (p:=fun e:Ed=>e.1 == c && decide (e.2∈P)) (q:=fun e:Ed=>e.1 == c) (l:=E) (fun x _ hx=>by simp only [Bool.and_eq_true] at hx;exact hx.1) h e he (by simpa using h1)
 simp only [Bool.and_eq_true,decide_eq_true_eq] at this
 exact this.2
structure Kh (E:List Ed) (n:Nat) (f:Nat->Nat) (i m:Nat) (Q:List Nat) (W:List Int):Prop where
 len:W.length=n
 wt:∀ c,c<n->W[c]?=some (((Xz E c:Nat):Int) - (XD E (Q.take i) c:Nat) - (((XC E (Q.getD i 0)).take m).countP (· == c):Nat))
 nd:Q.Nodup
 rep:∀ c∈Q,c<n/\f c=c
 zero:∀ c,c<n->f c=c->(c∈Q↔W[c]?=some 0)
 topo:∀ (j c:Nat),Q[j]?=some c->∀ e∈E,e.1=c->∃ j',j'<j/\Q[j']?=some e.2
section
variable {E : List Ed} {n : Nat} {f : Nat -> Nat} {i m : Nat} {Q : List Nat} {W : List Int}
theorem Kh.qlen (h:Kh E n f i m Q W):Q.length<=n:=by
 have:=h.nd.length_le_of_subset (l₂:=List.range n) fun q hq=>List.mem_range.2 (h.rep q hq).1
 simpa using this
theorem Kh.step (h:Kh E n f i m Q W) (hi:i<Q.length) (hE:∀ e∈E,e.1<n/\f e.1=e.1) {c:Nat} (hc:(XC E (Q.getD i 0))[m]?=some c):
  c<n/\f c=c/\∃ w:Int,W[c]?=some w/\1<=w/\w<=Xz E c/\(w ≠ 1->Kh E n f i (m+1) Q (W.set c (w - 1)))/\(w=1->Kh E n f i (m+1) (Q++[c]) (W.set c (w - 1))):=by
 have hqi:Q[i]?=some (Q.getD i 0):=by rw [gE2,gE1 hi];rfl
 have hwt:=h.wt
 generalize hq:Q.getD i 0=q at *
 have hmem:c∈XC E q:=gE9 hc
 have hce:∃ e∈E,e.2=q/\e.1=c:=by
  obtain ⟨e,he,h1⟩:=List.mem_map.1 hmem
  have:=List.mem_filter.1 he
  exact ⟨e,this.1,by simpa using this.2,h1⟩
 obtain ⟨e0,he0,he1,he2⟩:=hce
 have hcn:=hE e0 he0
 rw [he2] at hcn
 obtain ⟨hc1,hc2⟩:=hcn
 have hml:=(List.getElem?_eq_some_iff.1 hc).1
 have hcv:=(List.getElem?_eq_some_iff.1 hc).2
 have hqn:q ∉ Q.take i:=fun hin=>by
  obtain ⟨j,hj,hj2⟩:=List.mem_take_iff_getElem.1 hin
  have hji:j<i:=by have:=List.length_take_le i Q;omega
  have e1:Q[j]=Q[i]:=by rw [hj2,(List.getElem?_eq_some_iff.1 hqi).2]
  exact List.pairwise_iff_getElem.1 h.nd j i (by omega) hi hji e1
 have htk:Q.take (i+1)=Q.take i++[q]:=by rw [gE8 hi,(List.getElem?_eq_some_iff.1 hqi).2]
 have hsn:=KO (E:=E) hqn
 have hle:=fun d=>Rf E (Q.take (i+1)) d
 rw [htk] at hle
 have htm:(XC E q).take (m+1)=(XC E q).take m++[c]:=by rw [gE8 hml,hcv]
 have hcnt:∀ d,((XC E q).take (m+1)).countP (· == d)=((XC E q).take m).countP (· == d)+if c=d then 1 else 0:=fun d=>by
  rw [htm,List.countP_append]
  by_cases e:c=d <;> simp [e]
 have hsub:∀ d k,((XC E q).take k).countP (· == d)<=(XC E q).countP (· == d):=fun d k=>(List.take_sublist k _).countP_le
 have hw:=hwt c hc1
 have hb1:=hcnt c
 rw [if_pos rfl] at hb1
 have hb2:=hsub c (m+1)
 have hb3:=hle c
 rw [hsn] at hb3
 refine ⟨hc1,hc2,_,hw,by omega,by omega,fun hw1=>?_,fun hw1=>?_⟩
 ·refine ⟨by simp [h.len],fun d hd=>?_,h.nd,h.rep,fun d hd hd2=>?_,h.topo⟩
  ·rw [hq,List.getElem?_set,hcnt d]
   by_cases e:c=d
   rotate_left
   ·rw [if_neg e,if_neg e,hwt d hd,Nat.add_zero]
   subst e
   rw [if_pos rfl,if_pos (by rw [h.len];exact hc1),if_pos rfl]
   congr 1;omega
  rw [List.getElem?_set]
  by_cases e:c=d
  rotate_left
  ·rw [if_neg e];exact h.zero d hd hd2
  subst e
  rw [if_pos rfl,if_pos (by rw [h.len];exact hc1),h.zero c hd hd2,hw]
  constructor
  ·intro h0;injection h0 with h0;omega
  intro h0;injection h0 with h0;omega
 have hcq:c ∉ Q:=fun hin=>by
  have:=(h.zero c hc1 hc2).1 hin
  rw [hw] at this
  injection this with this
  omega
 have htk2:(Q++[c]).take i=Q.take i:=List.take_append_of_le_length (by omega)
 have hgq:(Q++[c]).getD i 0=q:=by rw [gE2,gEa hi,hqi];rfl
 refine ⟨by simp [h.len],fun d hd=>?_,?_,fun d hd=>?_,fun d hd hd2=>?_,fun j d hj e he h1=>?_⟩
 ·rw [htk2,hgq,List.getElem?_set,hcnt d]
  by_cases e:c=d
  rotate_left
  ·rw [if_neg e,if_neg e,hwt d hd,Nat.add_zero]
  subst e
  rw [if_pos rfl,if_pos (by rw [h.len];exact hc1),if_pos rfl]
  congr 1;omega
 ·rw [List.nodup_append]
  exact ⟨h.nd,by simp,fun a ha b hb=>by simp at hb;subst hb;intro e;subst e;exact hcq ha⟩
 ·rcases List.mem_append.1 hd with h1 | h1
  ·exact h.rep d h1
  simp at h1;subst h1;exact ⟨hc1,hc2⟩
 ·rw [List.getElem?_set,List.mem_append,List.mem_singleton]
  by_cases e:c=d
  rotate_left
  ·rw [if_neg e,<- h.zero d hd hd2]
   exact ⟨fun h1=>h1.elim id fun h2=>absurd h2.symm e,.inl⟩
  subst e
  rw [if_pos rfl,if_pos (by rw [h.len];exact hc1)]
  exact ⟨fun _=>by congr 1;omega,fun _=>.inr rfl⟩
 rcases Nat.lt_or_ge j Q.length with hl | hl
 ·rw [gEa hl] at hj
  obtain ⟨j',a1,a2⟩:=h.topo j d hj e he h1
  exact ⟨j',a1,by rw [gEa (List.getElem?_eq_some_iff.1 a2).1];exact a2⟩
 rw [gEb hl] at hj
 have hj0:j=Q.length:=by
  have:=(List.getElem?_eq_some_iff.1 hj).1
  simp at this;omega
 subst hj0
 simp at hj
 subst hj
 have hfull:XD E (Q.take i++[q]) c=Xz E c:=by rw [hsn];omega
 have hin:=Q3 hfull e he h1
 rw [<- htk] at hin
 obtain ⟨j',hj',hj2⟩:=List.mem_take_iff_getElem.1 hin
 exact ⟨j',by omega,by rw [gEa (by omega),gE1 (by omega),hj2]⟩
theorem Kh.next (h:Kh E n f i m Q W) (hi:i<Q.length) (hm:(XC E (Q.getD i 0)).length<=m):Kh E n f (i+1) 0 Q W:=by
 have hqi:Q[i]?=some (Q.getD i 0):=by rw [gE2,gE1 hi];rfl
 refine ⟨h.len,fun c hc=>?_,h.nd,h.rep,h.zero,h.topo⟩
 have hqn:Q.getD i 0 ∉ Q.take i:=fun hin=>by
  obtain ⟨j,hj,hj2⟩:=List.mem_take_iff_getElem.1 hin
  have hji:j<i:=by have:=List.length_take_le i Q;omega
  have e1:Q[j]=Q[i]:=by rw [hj2,(List.getElem?_eq_some_iff.1 hqi).2]
  exact List.pairwise_iff_getElem.1 h.nd j i (by omega) hi hji e1
 have htk:Q.take (i+1)=Q.take i++[Q.getD i 0]:=by rw [gE8 hi,(List.getElem?_eq_some_iff.1 hqi).2]
 rw [h.wt c hc,htk,KO hqn,gE7 hm]
 congr 1
 simp only [List.take_zero,List.countP_nil]
 omega
end
def Hr (E:List Ed) (n:Nat) (f:Nat->Nat) (Q:List Nat):Prop:=Q.Nodup/\(∀ c,c∈Q↔c<n/\f c=c)/\∀ (j c:Nat),Q[j]?=some c->∀ e∈E,e.1=c->∃ j',j'<j/\Q[j']?=some e.2
theorem Kh.done {E:List Ed} {n:Nat} {f:Nat->Nat} {Q:List Nat} {W:List Int} (h:Kh E n f Q.length 0 Q W) (rk:Nat->Nat) (hE:∀ e∈E,e.2<n/\f e.2=e.2/\rk e.2<rk e.1):Hr E n f Q:=by
 refine ⟨h.nd,fun c=>⟨h.rep c,?_⟩,h.topo⟩
 have key:∀ k c,rk c<=k->c<n->f c=c->c∈Q:=by
  intro k
  induction k with
  | zero=>
   intro c hk hc hf
   rw [h.zero c hc hf,h.wt c hc,List.take_length]
   have h0:Xz E c=0:=by
    unfold Xz
    rw [List.countP_eq_zero]
    intro e he h1
    have:=(hE e he).2.2
    have h2:e.1=c:=by simpa using h1
    rw [h2] at this;omega
   have h1:=Rf E Q c
   rw [List.take_zero,List.countP_nil]
   congr 1;omega
  | succ k ih=>
   intro c hk hc hf
   rw [h.zero c hc hf,h.wt c hc,List.take_length]
   have hall:∀ e∈E,e.1=c->e.2∈Q:=fun e he h1=>by
    obtain ⟨a1,a2,a3⟩:=hE e he
    rw [h1] at a3
    exact ih e.2 (by omega) a1 a2
   have h1:XD E Q c=Xz E c:=by
    unfold XD Xz
    refine List.countP_congr fun e he=>?_
    simp only [Bool.and_eq_true,decide_eq_true_eq,beq_iff_eq]
    exact ⟨fun h=>h.1,fun h=>⟨h,hall e he h⟩⟩
   rw [h1,List.take_zero,List.countP_nil]
   congr 1;omega
 exact fun ⟨h1,h2⟩=>key _ c (Nat.le_refl _) h1 h2
def XE (n:Nat) (r:List Ar):List Ar:=r.map fun a=>(a.1,a.2+(n:Int))
def XF (n:Nat) (R:List (List Ar)):List (List Ar):=R.map (XE n)
def Eo (A R:List (List Ar)):List (List Ar):=A++XF A.length R
theorem CO (n:Nat) (r:List Ar):(XE n r).length=r.length:=by simp [XE]
theorem Hs (n:Nat) (R:List (List Ar)):(XF n R).length=R.length:=by simp [XF]
theorem CF (A R:List (List Ar)):(Eo A R).length=A.length+R.length:=by simp [Eo,Hs]
theorem Q4 (R:List (List Ar)):Eo [] R=R:=by
 have:XE 0=id:=by funext r;simp [XE]
 simp [Eo,XF,this]
theorem U6 {A R:List (List Ar)} {s:Nat} (h:s<A.length):(Eo A R).getD s []=A.getD s []:=by
 rw [gE2,gE2,Eo,gEa h]
theorem U7 (A R:List (List Ar)) (s:Nat):(Eo A R).getD (A.length+s) []=XE A.length (R.getD s []):=by
 rw [gE2,gE2,Eo,gEb (by omega),Nat.add_sub_cancel_left,XF,List.getElem?_map]
 cases R[s]? <;> simp [XE]
theorem U8 (n:Nat) (r:List Ar):BR true (XE n r)=XE n (BR true r):=by
 simp [BR,XE,List.takeWhile_map,Function.comp_def]
theorem KP {A R:List (List Ar)} {s:Nat} (h:s<A.length):WP true (Eo A R) s=WP true A s:=by unfold WP;rw [U6 h]
theorem KQ {A R:List (List Ar)} (hlo:BE R=true) (s:Nat):WP true (Eo A R) (A.length+s)=(WP true R s).map (A.length + ·):=by
 unfold WP
 rw [U7,U8]
 unfold XE
 rw [List.map_map,List.map_map]
 refine List.map_congr_left fun a ha=>?_
 have:=(Iq hlo (k:=s) a ha).1
 simp only [Function.comp_apply]
 omega
theorem IA {A R:List (List Ar)} (hA:∀ x,x<A.length->∀ y∈WP true A x,y<A.length) {s u:Nat} (hs:s<A.length):Rc (WP true (Eo A R)) s u↔Rc (WP true A) s u:=by
 constructor
 rotate_left
 ·intro h
  induction h with
  | refl=>exact .refl _
  | tail h1 h2 ih=>
   refine ih.tail ?_
   rwa [KP (h1.lt hs hA)]
 intro h
 induction h with
 | refl=>exact .refl _
 | tail h1 h2 ih=>
  refine ih.tail ?_
  rwa [KP (ih.lt hs hA)] at h2
theorem IB {A R:List (List Ar)} (hlo:BE R=true) {s u:Nat}:Rc (WP true (Eo A R)) (A.length+s) u↔∃ v,u=A.length+v/\Rc (WP true R) s v:=by
 constructor
 rotate_left
 ·rintro ⟨v,rfl,h⟩
  induction h with
  | refl=>exact .refl _
  | tail h1 h2 ih=>
   refine ih.tail ?_
   rw [KQ hlo]
   exact List.mem_map.2 ⟨_,h2,rfl⟩
 intro h
 generalize hx:A.length+s=x at h
 induction h with
 | refl=>exact ⟨s,hx.symm,.refl _⟩
 | tail h1 h2 ih=>
  obtain ⟨v,e,h3⟩:=ih
  rw [e,KQ hlo] at h2
  obtain ⟨w,hw,rfl⟩:=List.mem_map.1 h2
  exact ⟨w,rfl,h3.tail hw⟩
theorem UV {A R:List (List Ar)} (hA:∀ x,x<A.length->∀ y∈WP true A x,y<A.length) {s:Nat} (hs:s<A.length):Dv (Eo A R) s↔Dv A s:=by
 constructor
 rotate_left
 ·rintro ⟨g,h1,w,h2,h3⟩
  have hg:=h1.lt hs hA
  exact ⟨g,(IA hA hs).2 h1,w,by rwa [KP hg],(IA hA (hA _ hg _ h2)).2 h3⟩
 rintro ⟨g,h1,w,h2,h3⟩
 rw [IA hA hs] at h1
 have hg:=h1.lt hs hA
 rw [KP hg] at h2
 exact ⟨g,h1,w,h2,(IA hA (hA _ hg _ h2)).1 h3⟩
theorem UW {A R:List (List Ar)} (hlo:BE R=true) {s:Nat}:Dv (Eo A R) (A.length+s)↔Dv R s:=by
 constructor
 rotate_left
 ·rintro ⟨g,h1,w,h2,h3⟩
  refine ⟨A.length+g,(IB hlo).2 ⟨g,rfl,h1⟩,A.length+w,?_,(IB hlo).2 ⟨g,rfl,h3⟩⟩
  rw [KQ hlo]
  exact List.mem_map.2 ⟨w,h2,rfl⟩
 rintro ⟨g,h1,w,h2,h3⟩
 obtain ⟨g,rfl,p1⟩:=(IB hlo).1 h1
 rw [KQ hlo] at h2
 obtain ⟨w,p2,rfl⟩:=List.mem_map.1 h2
 obtain ⟨g2,e,p3⟩:=(IB hlo).1 h3
 have:g2=g:=by omega
 subst this
 exact ⟨_,p1,w,p2,p3⟩
def CpOk (R:List (List Ar)) (D:List Int):Prop:=D.length=R.length/\∀ v,v<R.length->Least (WP true R) v (WO D (-1) v)
theorem NG {D:List Int} {s:Nat} {x:Int} (h:D[s]?=some x):WO D (-1) s=x:=by unfold WO;rw [h];rfl
theorem CpOk.both {A R:List (List Ar)} {C D:List Int} (hA:∀ x,x<A.length->∀ y∈WP true A x,y<A.length) (hlo:BE R=true) (h1:CpOk A C) (h2:CpOk R D):CpOk (Eo A R) (C++D.map (·+(A.length:Int))):=by
 refine ⟨by rw [CF,List.length_append,List.length_map,h1.1,h2.1],fun v hv=>?_⟩
 rw [CF] at hv
 rcases Nat.lt_or_ge v A.length with h | h
 ·have e:WO (C++D.map (·+(A.length:Int))) (-1) v=WO C (-1) v:=by
   unfold WO;rw [gEa (by rw [h1.1];exact h)]
  rw [e]
  obtain ⟨m,a1,a2,a3,a4⟩:=h1.2 v h
  have hm:=a2.lt h hA
  refine ⟨m,a1,(IA hA h).2 a2,(IA hA hm).2 a3,fun u b1 b2=>?_⟩
  have b1:=(IA hA h).1 b1
  exact a4 u b1 ((IA hA (b1.lt h hA)).1 b2)
 obtain ⟨s,rfl⟩:∃ s,v=A.length+s:=⟨v - A.length,by omega⟩
 have hs:s<R.length:=by omega
 obtain ⟨m,a1,a2,a3,a4⟩:=h2.2 s hs
 have hsD:s<D.length:=by rw [h2.1];exact hs
 have e:WO (C++D.map (·+(A.length:Int))) (-1) (A.length+s)=WO D (-1) s+(A.length:Int):=by
  unfold WO
  rw [gEb (by rw [h1.1];omega),h1.1,Nat.add_sub_cancel_left,List.getElem?_map,gE1 hsD];rfl
 rw [e,a1]
 refine ⟨A.length+m,by omega,(IB hlo).2 ⟨m,rfl,a2⟩,(IB hlo).2 ⟨s,rfl,a3⟩,fun u b1 b2=>?_⟩
 obtain ⟨u,rfl,p1⟩:=(IB hlo).1 b1
 obtain ⟨s2,e2,p2⟩:=(IB hlo).1 b2
 have:s2=s:=by omega
 subst this
 have:=a4 u p1 p2
 omega
theorem DvL.both {A R:List (List Ar)} {B C:List Bool} (hA:∀ x,x<A.length->∀ y∈WP true A x,y<A.length) (hlo:BE R=true) (h1:DvL A B) (h2:DvL R C):DvL (Eo A R) (B++C):=by
 refine ⟨by rw [CF,List.length_append,h1.1,h2.1],fun v hv=>?_⟩
 rw [CF] at hv
 rcases Nat.lt_or_ge v A.length with h | h
 ·rw [gE2,gEa (by rw [h1.1];exact h),<- gE2,h1.2 v h,UV hA h]
 obtain ⟨s,rfl⟩:∃ s,v=A.length+s:=⟨v - A.length,by omega⟩
 rw [gE2,gEb (by rw [h1.1];omega),h1.1,Nat.add_sub_cancel_left,<- gE2,h2.2 s (by omega),UW hlo]
theorem Gs {X:List (List Ar)} (hv:Bv X=true) {n m:Nat}:m∈WP true X n↔(0,(m:Int))∈X.getD n []:=by
 rw [<- Km true hv]
 unfold LA Hl
 simp only [List.mem_map,List.mem_filter,Bool.not_true,Bool.false_or,beq_iff_eq]
 constructor
 rotate_left
 ·intro h
  exact ⟨_,⟨h,rfl⟩,by simp⟩
 rintro ⟨a,⟨h1,h2⟩,rfl⟩
 have h3:0<=a.2:=by
  rcases Nat.lt_or_ge n X.length with h | h
  rotate_left
  ·rw [gE2,List.getElem?_eq_none h] at h1;simp at h1
  rw [gE2,gE1 h,Option.getD_some] at h1
  have:=(gE4 hv).1.2.2.2 _ (gE6 h) a h1
  omega
 have e:((0:Int),((a.2.toNat:Nat):Int))=a:=by
  rcases a with ⟨x,y⟩
  simp only at h2 h3 ⊢
  rw [h2];congr 1;omega
 rw [e];exact h1
def XG (D:List Int) (v:Nat):Nat:=(D.getD v 0).toNat
theorem BN {X:List (List Ar)} {D:List Int} (hv:Bv X=true) (h:CpOk X D) {v:Nat} (hs:v<X.length):D[v]?=some (XG D v:Int)/\XG D v<X.length/\Rc (WP true X) v (XG D v)/\Rc (WP true X) (XG D v) v/\XG D (XG D v)=XG D v:=by
 have hlo:BE X=true:=gEg (gE4 hv).1
 have hE:=Cw true hlo
 obtain ⟨m,a1,a2,a3,a4⟩:=h.2 v hs
 have hg:D[v]?=some (m:Int):=by
  have:v<D.length:=by rw [h.1];exact hs
  unfold WO at a1
  rw [gE1 this] at a1 ⊢
  rw [<- a1];rfl
 have e:XG D v=m:=by unfold XG;rw [gE2,hg];rfl
 have hm:=a2.lt hs hE
 obtain ⟨m2,b1,b2,b3,b4⟩:=h.2 m hm
 have e2:XG D m=m:=by
  have hg2:D[m]?=some (m2:Int):=by
   have:m<D.length:=by rw [h.1];exact hm
   unfold WO at b1
   rw [gE1 this] at b1 ⊢
   rw [<- b1];rfl
  have c1:=a4 m2 (a2.trans b2) (b3.trans a3)
  have c2:=b4 m (.refl _) (.refl _)
  unfold XG;rw [gE2,hg2]
  show ((m2:Int)).toNat=m
  omega
 rw [e]
 exact ⟨hg,hm,a2,a3,e2⟩
theorem U9 {X:List (List Ar)} {D:List Int} (hv:Bv X=true) (h:CpOk X D) {v w:Nat} (hs:v<X.length) (h1:Rc (WP true X) v w) (h2:Rc (WP true X) w v):XG D v=XG D w:=by
 have hlo:BE X=true:=gEg (gE4 hv).1
 have hw:=h1.lt hs (Cw true hlo)
 obtain ⟨m,a1,a2,a3,a4⟩:=h.2 v hs
 obtain ⟨k,b1,b2,b3,b4⟩:=h.2 w hw
 have c1:=a4 k (h1.trans b2) (b3.trans h2)
 have c2:=b4 m (h2.trans a2) (a3.trans h1)
 have d1:WO D (-1) v=WO D (-1) w:=by rw [a1,b1];omega
 have e1:=(BN hv h hs).1
 have e2:=(BN hv h hw).1
 rw [NG e1,NG e2] at d1
 omega
noncomputable def XH (X:List (List Ar)) (v:Nat):Nat:=(List.range X.length).countP fun u=>@decide (Rc (WP true X) v u) (Classical.propDecidable _)
theorem IC {γ:Type} {p q:γ->Bool}:∀ {l:List γ},(∀ x∈l,p x=true->q x=true)->∀ x∈l,q x=true->p x=false->l.countP p<l.countP q
 | a :: l,h,x,hx,h1,h2=>by
  have hm:l.countP p<=l.countP q:=List.countP_mono_left fun y hy=>h y (gEf _ hy)
  have ha:=h a List.mem_cons_self
  rw [List.countP_cons,List.countP_cons]
  rcases List.mem_cons.1 hx with rfl | hx
  ·rw [h1,h2];simp;omega
  ·have ih:=IC (fun y hy=>h y (gEf _ hy)) x hx h1 h2
   cases hp:p a with
   | false=>simp;split <;> omega
   | true=>rw [ha hp];simp;omega
theorem Q5 {X:List (List Ar)} {D:List Int} (hv:Bv X=true) (h:CpOk X D):∀ e∈Xy (XG D) X X.length,(e.1<X.length/\XG D e.1=e.1)/\e.2<X.length/\XG D e.2=e.2/\XH X e.2<XH X e.1:=by
 intro e he
 have hlo:BE X=true:=gEg (gE4 hv).1
 have hE:=Cw true hlo
 obtain ⟨s,hs,a,ha,h0,hne,rfl⟩:=Fb.1 he
 have hg:X.getD s []=X[s]:=by rw [gE2,gE1 hs];rfl
 rw [hg] at ha
 have hb:=(gE4 hlo).2.2.2 _ (gE6 hs) a ha
 have ht:a.2.toNat<X.length:=by omega
 have hadj:a.2.toNat∈WP true X s:=by
  rw [Gs hv,hg]
  have:((0:Int),((a.2.toNat:Nat):Int))=a:=by
   rcases a with ⟨x,y⟩
   simp only at h0 hb ⊢
   rw [h0];congr 1;omega
  rw [this];exact ha
 obtain ⟨_,p2,p3,p4,p5⟩:=BN hv h hs
 obtain ⟨_,q2,q3,q4,q5⟩:=BN hv h ht
 refine ⟨⟨p2,p5⟩,q2,q5,?_⟩
 have hst:Rc (WP true X) (XG D s) (XG D a.2.toNat):=(p4.trans (.one hadj)).trans q3
 unfold XH
 refine IC (fun u _ hu=>?_) (XG D s) (List.mem_range.2 p2) (@decide_eq_true _ (Classical.propDecidable _) (.refl _)) ?_
 ·simp only [decide_eq_true_eq] at hu ⊢
  exact hst.trans hu
 refine @decide_eq_false _ (Classical.propDecidable _) fun hc=>hne ?_
 refine U9 hv h hs (.one hadj) ?_
 exact (q3.trans hc).trans p4
theorem NH {A R:List (List Ar)} (hA:A=[]\/Bv A=true) (hR:Bv R=true) (h1:A.length+R.length<=Tq) (h2:Bw A+Bw R<=Ts):Bv (Eo A R)=true:=by
 have h:=gE4 hR
 have hA2:∀ r∈A,(∀ a∈r,0<=a.1/\a.1<=1025/\0<=a.2/\a.2<(A.length:Int))/\SortA r:=by
  rcases hA with rfl | hA
  ·intro r hr;simp at hr
  have h3:=gE4 hA
  exact fun r hr=>⟨h3.1.2.2.2 r hr,h3.2 r hr⟩
 refine gEg ⟨⟨by rw [CF];have:=h.1.1;omega,by rw [CF];exact h1,?_,fun r hr a ha=>?_⟩,fun r hr=>?_⟩
 ·have:Bw (Eo A R)=Bw A+Bw R:=by
   unfold Bw Eo XF
   rw [List.map_append,List.sum_append,List.map_map]
   have:(List.length ∘ XE A.length)=List.length:=by funext r;exact CO _ r
   rw [this]
  omega
 ·rw [CF]
  rcases List.mem_append.1 hr with h3 | h3
  ·have:=(hA2 r h3).1 a ha;omega
  obtain ⟨q,hq,rfl⟩:=List.mem_map.1 h3
  obtain ⟨b,hb,rfl⟩:=List.mem_map.1 ha
  have:=h.1.2.2.2 q hq b hb
  simp only
  omega
 rcases List.mem_append.1 hr with h3 | h3
 ·exact (hA2 r h3).2
 obtain ⟨q,hq,rfl⟩:=List.mem_map.1 h3
 have h4:=h.2 q hq
 unfold SortA XE at *
 rw [List.pairwise_map]
 refine h4.imp fun {a b} hab=>?_
 rw [C0] at hab ⊢
 simp only
 omega
section
variable {α β : Type} [DecidableEq α] [DecidableEq β]
def Xh (f:Nat->α):Nat->List Int × Nat
 | 0=>([],0)
 | k+1=>match (List.range k).find? (fun t=>decide (f t=f k)) with
  | some t=>((Xh f k).1++[(Xh f k).1.getD t 0],(Xh f k).2)
  | none=>((Xh f k).1++[((Xh f k).2:Int)],(Xh f k).2+1)
theorem Do {f:Nat->α} {k t:Nat} (h:(List.range k).find? (fun t=>decide (f t=f k))=some t):Xh f (k+1)=((Xh f k).1++[(Xh f k).1.getD t 0],(Xh f k).2):=by rw [Xh,h]
theorem Dp {f:Nat->α} {k:Nat} (h:(List.range k).find? (fun t=>decide (f t=f k))=none):Xh f (k+1)=((Xh f k).1++[((Xh f k).2:Int)],(Xh f k).2+1):=by rw [Xh,h]
theorem DD {f:Nat->α} {k t:Nat} (ht:t<k) (h:f t=f k) (hn:∀ u,u<t->f u ≠ f k):(List.range k).find? (fun t=>decide (f t=f k))=some t:=by
 rw [List.find?_range_eq_some]
 exact ⟨by simpa using h,by simpa using ht,fun j hj=>by simpa using hn j hj⟩
theorem DE {f:Nat->α} {k:Nat} (hn:∀ u,u<k->f u ≠ f k):(List.range k).find? (fun t=>decide (f t=f k))=none:=by
 rw [List.find?_range_eq_none]
 exact fun j hj=>by simpa using hn j hj
theorem FK (f:Nat->α) (k:Nat):(∃ t,t<k/\f t=f k/\(∀ u,u<t->f u ≠ f k)/\Xh f (k+1)=((Xh f k).1++[(Xh f k).1.getD t 0],(Xh f k).2))\/((∀ u,u<k->f u ≠ f k)/\Xh f (k+1)=((Xh f k).1++[((Xh f k).2:Int)],(Xh f k).2+1)):=by
 cases h:(List.range k).find? (fun t=>decide (f t=f k)) with
 | some t=>
  have h2:=List.find?_range_eq_some.1 h
  exact .inl ⟨t,by simpa using h2.2.1,by simpa using h2.1,fun u hu=>by simpa using h2.2.2 u hu,Do h⟩
 | none=>
  have h2:=List.find?_range_eq_none.1 h
  exact .inr ⟨fun u hu=>by simpa using h2 u hu,Dp h⟩
structure NmOk (f:Nat->α) (k:Nat) (p:List Int × Nat):Prop where
 len:p.1.length=k
 eq:∀ s t,s<k->t<k->(p.1.getD s 0=p.1.getD t 0↔f s=f t)
 rng:∀ s,s<k->0<=p.1.getD s 0/\p.1.getD s 0<(p.2:Int)
 cnt:p.2<=k
theorem CW {l:List Int} {x:Int} {s:Nat} (h:s<l.length):(l++[x]).getD s 0=l.getD s 0:=by
 rw [gE2,gEa h,<- gE2]
theorem DF {l:List Int} {x:Int} {s:Nat} (h:s=l.length):(l++[x]).getD s 0=x:=by
 subst h
 rw [gE2,gEb (Nat.le_refl _),Nat.sub_self];rfl
theorem Cx (f:Nat->α) (k:Nat):NmOk f k (Xh f k):=by
 induction k with
 | zero=>exact ⟨rfl,fun s t h=>by omega,fun s h=>by omega,Nat.le_refl _⟩
 | succ k ih=>
  have hl:=ih.len
  rcases FK f k with ⟨t,h1,h2,h3,h4⟩ | ⟨h3,h4⟩
  ·rw [h4]
   generalize Xh f k=p at *
   have g1:∀ s,s<k->(p.1++[p.1.getD t 0]).getD s 0=p.1.getD s 0:=fun s hs=>CW (by omega)
   have g2:(p.1++[p.1.getD t 0]).getD k 0=p.1.getD t 0:=DF hl.symm
   refine ⟨by simp [hl],fun s u hs hu=>?_,fun s hs=>?_,by have:=ih.cnt;simp only;omega⟩
   rotate_left
   ·simp only
    rcases Nat.lt_or_ge s k with a | a
    ·rw [g1 s a];exact ih.rng s a
    have:s=k:=by omega
    subst this;rw [g2];exact ih.rng t h1
   simp only
   rcases Nat.lt_or_ge s k with a | a <;> rcases Nat.lt_or_ge u k with b | b
   ·rw [g1 s a,g1 u b];exact ih.eq s u a b
   ·have:u=k:=by omega
    subst this
    rw [g1 s a,g2,ih.eq s t a h1,h2]
   ·have:s=k:=by omega
    subst this
    rw [g1 u b,g2,ih.eq t u h1 b,h2]
   have e1:s=k:=by omega
   have e2:u=k:=by omega
   subst e1;subst e2;simp
  rw [h4]
  generalize Xh f k=p at *
  have g1:∀ s,s<k->(p.1++[(p.2:Int)]).getD s 0=p.1.getD s 0:=fun s hs=>CW (by omega)
  have g2:(p.1++[(p.2:Int)]).getD k 0=p.2:=DF hl.symm
  refine ⟨by simp [hl],fun s u hs hu=>?_,fun s hs=>?_,by have:=ih.cnt;simp only;omega⟩
  rotate_left
  ·simp only
   rcases Nat.lt_or_ge s k with a | a
   ·rw [g1 s a];have:=ih.rng s a;omega
   have:s=k:=by omega
   subst this;rw [g2];omega
  simp only
  rcases Nat.lt_or_ge s k with a | a <;> rcases Nat.lt_or_ge u k with b | b
  rotate_left 3
  ·have e1:s=k:=by omega
   have e2:u=k:=by omega
   subst e1;subst e2;simp
  ·rw [g1 s a,g1 u b];exact ih.eq s u a b
  ·have:u=k:=by omega
   subst this
   rw [g1 s a,g2]
   have:=ih.rng s a
   exact ⟨fun e=>by omega,fun e=>absurd e (h3 s a)⟩
  have:s=k:=by omega
  subst this
  rw [g1 u b,g2]
  have:=ih.rng u b
  exact ⟨fun e=>by omega,fun e=>absurd e.symm (h3 u b)⟩
theorem Ny {f:Nat->α} {g:Nat->β}:∀ k,(∀ s t,s<k->t<k->(f s=f t↔g s=g t))->Xh f k=Xh g k:=by
 intro k
 induction k with
 | zero=>intro _;rfl
 | succ k ih=>
  intro h
  have ih2:=ih fun s t hs ht=>h s t (by omega) (by omega)
  rcases FK f k with ⟨t,h1,h2,h3,h4⟩ | ⟨h3,h4⟩
  ·rw [h4,Do (f:=g) (DD h1 ((h t k (by omega) (by omega)).1 h2) fun u hu e=>h3 u hu ((h u k (by omega) (by omega)).2 e)),ih2]
  rw [h4,Dp (f:=g) (DE fun u hu e=>h3 u hu ((h u k (by omega) (by omega)).2 e)),ih2]
theorem KH (f:Nat->α) (n:Nat):Xh (fun s=>(Xh f n).1.getD s 0) n=Xh f n:=Ny n fun s t hs ht=>(Cx f n).eq s t hs ht
def PX (f:Nat->α) (k:Nat):Bool:=(List.range k).all fun t=>!decide (f t=f k)
theorem DU {f:Nat->α} {k:Nat}:PX f k=true↔∀ t,t<k->f t ≠ f k:=by simp [PX]
theorem KI (f:Nat->α) (k:Nat):(Xh f k).2=(List.range k).countP (PX f):=by
 induction k with
 | zero=>rfl
 | succ k ih=>
  rw [List.range_succ,List.countP_append,<- ih]
  rcases FK f k with ⟨t,h1,h2,h3,h4⟩ | ⟨h3,h4⟩
  rotate_left
  ·have:PX f k=true:=DU.2 h3
   rw [h4];simp [this]
  have:PX f k=false:=by
   rw [<- Bool.not_eq_true,DU]
   exact fun h=>h t h1 h2
  rw [h4];simp [this]
theorem EF {γ:Type} {p q:γ->Bool}:∀ {l:List γ},(∀ x∈l,p x=true->q x=true)->l.countP p=l.countP q->∀ x∈l,q x=true->p x=true
 | [],_,_,x,hx,_=>by simp at hx
 | a :: r,h,e,x,hx,hq=>by
  have hle:=List.countP_mono_left (p:=p) (q:=q) (l:=r) fun y hy=>h y (gEf _ hy)
  rw [List.countP_cons,List.countP_cons] at e
  have ha:=h a (by simp)
  rcases List.mem_cons.1 hx with rfl | hx
  ·cases hp:p x with
   | true=>rfl
   | false=>rw [hp,hq] at e;simp at e;omega
  ·refine EF (fun y hy=>h y (gEf _ hy)) ?_ x hx hq
   cases hp:p a with
   | true=>rw [hp,ha hp] at e;simp at e;exact e
   | false=>
    rw [hp] at e
    cases hqa:q a with
    | true=>rw [hqa] at e;simp at e;omega
    | false=>rw [hqa] at e;simpa using e
theorem KJ {f:Nat->α} (s:Nat):∃ t,t<=s/\f t=f s/\PX f t=true:=by
 induction s using Nat.strongRecOn with
 | _ s ih=>
  cases h:PX f s with
  | true=>exact ⟨s,Nat.le_refl _,rfl,h⟩
  | false=>
   have:¬ ∀ t,t<s->f t ≠ f s:=fun q=>by rw [DU.2 q] at h;cases h
   obtain ⟨t,ht,e⟩:∃ t,t<s/\f t=f s:=Classical.byContradiction fun q=>this fun t ht e=>q ⟨t,ht,e⟩
   obtain ⟨u,h1,h2,h3⟩:=ih t ht
   exact ⟨u,by omega,h2.trans e,h3⟩
theorem Nz {f:Nat->α} {g:Nat->β} {n:Nat} (h:∀ s t,s<n->t<n->g s=g t->f s=f t):(Xh f n).2<=(Xh g n).2/\((Xh f n).2=(Xh g n).2->Xh f n=Xh g n):=by
 have hsub:∀ k∈List.range n,PX f k=true->PX g k=true:=fun k hk hf=>by
  rw [List.mem_range] at hk
  rw [DU] at hf ⊢
  exact fun t ht e=>hf t ht (h t k (by omega) hk e)
 rw [KI,KI]
 refine ⟨List.countP_mono_left hsub,fun e=>Ny n fun s t hs ht=>⟨fun hf=>?_,h s t hs ht⟩⟩
 have hback:=EF hsub e
 obtain ⟨s1,a1,a2,a3⟩:=KJ (f:=g) s
 obtain ⟨t1,b1,b2,b3⟩:=KJ (f:=g) t
 have c1:=DU.1 (hback s1 (List.mem_range.2 (by omega)) a3)
 have c2:=DU.1 (hback t1 (List.mem_range.2 (by omega)) b3)
 have d1:f s1=f s:=h s1 s (by omega) hs a2
 have d2:f t1=f t:=h t1 t (by omega) ht b2
 have e3:f s1=f t1:=by rw [d1,d2,hf]
 have e4:s1=t1:=by
  rcases Nat.lt_trichotomy s1 t1 with q | q | q
  ·exact absurd e3 (c2 s1 q)
  ·exact q
  exact absurd e3.symm (c1 t1 q)
 rw [<- a2,<- b2,e4]
end
def Xi (S:List (List Ar)) (c:List Int) (s:Nat):List Ar:=Cq ((S.getD s []).map fun a=>(a.1,c.getD a.2.toNat 0))
theorem DG {S:List (List Ar)} {c:List Int} {s:Nat} {x:Ar}:x∈Xi S c s↔∃ a∈S.getD s [],x=(a.1,c.getD a.2.toNat 0):=by
 unfold Xi
 rw [C8,List.mem_map]
 exact ⟨fun ⟨a,h1,h2⟩=>⟨a,h1,h2.symm⟩,fun ⟨a,h1,h2⟩=>⟨a,h1,h2.symm⟩⟩
def LN (c:List Int) (row:List Ar) (e x:Int):Bool:=row.any fun a=>a.1 == e && c.getD a.2.toNat 0 == x
def Iy (c:List Int) (a b:List Ar):Bool:=a.all fun x=>LN c b x.1 (c.getD x.2.toNat 0)
theorem Se {S:List (List Ar)} {c:List Int} {s t:Nat}:Xi S c s=Xi S c t↔Iy c (S.getD s []) (S.getD t [])=true/\Iy c (S.getD t []) (S.getD s [])=true:=by
 have key:∀ s t,Iy c (S.getD s []) (S.getD t [])=true↔∀ x∈Xi S c s,x∈Xi S c t:=by
  intro s t
  simp only [Iy,LN,List.all_eq_true,List.any_eq_true,Bool.and_eq_true,beq_iff_eq]
  constructor
  ·intro h x hx
   obtain ⟨a,ha,rfl⟩:=DG.1 hx
   obtain ⟨b,hb,h1,h2⟩:=h a ha
   exact DG.2 ⟨b,hb,by rw [h1,h2]⟩
  intro h a ha
  obtain ⟨b,hb,e⟩:=DG.1 (h _ (DG.2 ⟨a,ha,rfl⟩))
  injection e with e1 e2
  exact ⟨b,hb,e1.symm,e2.symm⟩
 rw [key,key]
 constructor
 ·intro h;rw [h];exact ⟨fun _ h=>h,fun _ h=>h⟩
 rintro ⟨h1,h2⟩
 exact Cg (B9 _) (B9 _) fun x=>⟨h1 x,h2 x⟩
def Xj (S:List (List Ar)) (c:List Int) (s:Nat):Int × List Ar:=(c.getD s 0,Xi S c s)
def Xk (S:List (List Ar)) (c:List Int):List Int:=(Xh (Xj S c) S.length).1
def Xl (S:List (List Ar)) (c:List Int):Nat->List Int
 | 0=>c
 | k+1=>Xk S (Xl S c k)
def FxS (S:List (List Ar)) (c d:List Int):Prop:=∃ k,d=Xl S c k/\Xk S d=d
theorem FxS.stay {S:List (List Ar)} {c:List Int} {k j:Nat} (h:Xk S (Xl S c k)=Xl S c k) (hj:k<=j):Xl S c j=Xl S c k:=by
 induction j with
 | zero=>
  have:k=0:=by omega
  subst this;rfl
 | succ j ih=>
  by_cases e:k=j+1
  ·subst e;rfl
  rw [Xl,ih (by omega),h]
theorem FxS.uniq {S:List (List Ar)} {c d e:List Int} (h1:FxS S c d) (h2:FxS S c e):d=e:=by
 obtain ⟨k,rfl,hk⟩:=h1
 obtain ⟨j,rfl,hj⟩:=h2
 rcases Nat.le_total k j with h | h
 ·exact (FxS.stay hk h).symm
 exact FxS.stay hj h
def Nrm (n:Nat) (c:List Int):Prop:=(Xh (fun s=>c.getD s 0) n).1=c
def F9 (n:Nat) (c:List Int):Nat:=(Xh (fun s=>c.getD s 0) n).2
theorem Rb {α:Type} [DecidableEq α] (f:Nat->α) (n:Nat):Nrm n (Xh f n).1:=by unfold Nrm;rw [KH]
theorem NA {α:Type} [DecidableEq α] (f:Nat->α) (n:Nat):F9 n (Xh f n).1=(Xh f n).2:=by unfold F9;rw [KH]
theorem Nrm.len {n:Nat} {c:List Int} (h:Nrm n c):c.length=n:=by rw [<- h];exact (Cx _ n).len
theorem Nrm.rng {n:Nat} {c:List Int} (h:Nrm n c):∀ x∈c,0<=x/\x<(n:Int):=fun x hx=>by
 obtain ⟨i,hi,rfl⟩:=List.getElem_of_mem hx
 have hl:=h.len
 have h1:=(Cx (fun s=>c.getD s 0) n).rng i (by omega)
 have h2:=(Cx (fun s=>c.getD s 0) n).cnt
 unfold Nrm at h
 rw [h,gE2,gE1 hi,Option.getD_some] at h1
 omega
theorem NB (S:List (List Ar)) (c:List Int):Nrm S.length (Xk S c):=Rb _ _
theorem U4 {S:List (List Ar)} {c:List Int} (h:Nrm S.length c) (hne:Xk S c ≠ c):F9 S.length c<F9 S.length (Xk S c):=by
 have hr:=Nz (f:=fun s=>c.getD s 0) (g:=Xj S c) (n:=S.length) fun s t _ _ e=>by
  have:=congrArg Prod.fst e
  exact this
 have e1:F9 S.length (Xk S c)=(Xh (Xj S c) S.length).2:=NA _ _
 rw [e1]
 unfold F9
 rcases Nat.lt_or_eq_of_le hr.1 with q | q
 ·exact q
 exfalso
 apply hne
 have:=hr.2 q
 unfold Xk
 rw [<- this]
 exact h
theorem KK (n:Nat) (c:List Int):F9 n c<=n:=(Cx _ n).cnt
end Go.Proofs.YtjijjfkalheokaaGreatDoor
namespace Go.Proofs.YtjijjfkalheokaaGreatDoor
set_option linter.unusedVariables false
set_option linter.unusedSimpArgs false
open Go.RowKit
set_option maxRecDepth 100000

theorem aL (xs ys:List Int) (hn:xs.length<=140737488355328) (hm:ys.length<=140737488355328):FC Tryz.prog 80 [As xs,As ys] [] (fun r o=>o=[]/\r=.b (decide (xs=ys))):=by
 refine A6 Tryz.func80 rfl (by rw [Tryz.ntmps80];simp) ?_
 rw [Tryz.ntmps80]
 simp only [Bf,As]
 (refine Wu @A4 ?_;(repeat clear hK K);repeat refine kq fun K hK=>?_)
 (refine At ?_;intro X Y hX hY;simp only [go_sem])
 refine ⟨fun h=>hX ?_,fun h=>hY ?_⟩
 ·clear hX hY X Y
  (refine Wt ?_;(repeat clear hK K);repeat refine kq fun K hK=>?_)
  refine WH Tryz.results80 ?_
  have:xs ≠ ys:=by rintro rfl;simp at h
  simp [this]
 clear hX hY X Y
 have hlen:xs.length=ys.length:=by simp at h;omega
 clear h
 (refine Wt ?_;(repeat clear hK K);repeat refine kq fun K hK=>?_)
 refine A8 (fun k:Nat=>{ tm:=[(0,.a (.c (.t 1 (Ab xs)))),(1,.a (.c (.t 1 (Ab ys)))),(12,.i xs.length),(13,.i k)],hp:=[],n:=26,pin:=0 }) (fun k=>k<=xs.length/\xs.take k=ys.take k) (fun k=>xs.length - k) 0 ?_ ?_ ?_
 ·exact ⟨by omega,rfl⟩
 ·(refine BG ?_;simp only [Dg,go_sem,A4];try simp)
 rintro k ⟨hk,he⟩ K hK
 (refine Wt ?_;(repeat clear hK K);repeat refine kq fun K hK=>?_)
 (refine At ?_;intro X Y hX hY;simp only [go_sem])
 refine ⟨fun h=>hX ?_,fun h=>hY ?_⟩
 rotate_left
 ·have hge:k=xs.length:=by simp at h;omega
  clear hX hY X Y
  (refine Wx ?_;repeat clear hK K)
  (refine Wt ?_;(repeat clear hK K);repeat refine kq fun K hK=>?_)
  refine WH Tryz.results80 ?_
  have:xs=ys:=by
   rw [hge,List.take_length,hlen,List.take_length] at he
   exact he
  simp [this]
 have hlt:k<xs.length:=by simpa using h
 have hlt2:k<ys.length:=by omega
 clear hX hY X Y h
 (refine Wt ?_;(repeat clear hK K);repeat refine kq fun K hK=>?_)
 (refine Ac 8 [(0,0),(1,0),(2,0),(3,1),(4,0),(5,0),(6,0),(7,1),(8,2)] (by kernel_rfl) (by kernel_rfl) (by intro c st h;simp [Ae,AF,VT] at h) ?_)
 (refine Wq (an @A4 (an (Am (gE1 hlt)) (Am (gE1 hlt2)))) ?_;repeat clear hK K)
 (refine At ?_;intro X Y hX hY;simp only [go_sem])
 refine ⟨fun h=>hX ?_,fun h=>hY ?_⟩
 ·clear hX hY X Y
  (refine Wt ?_;(repeat clear hK K);repeat refine kq fun K hK=>?_)
  refine WH Tryz.results80 ?_
  have:xs ≠ ys:=by rintro rfl;simp at h
  simp [this]
 clear hX hY X Y
 (refine Wt ?_;(repeat clear hK K);repeat refine kq fun K hK=>?_)
 refine WD ?_
 refine hK _ (k+1) ⟨by omega,?_⟩ (by omega) ?_
 rotate_left
 ·exact WE
 have h1:xs[k]=ys[k]:=by simpa using h
 rw [gE8 hlt,gE8 hlt2,he,h1]
end Go.Proofs.YtjijjfkalheokaaGreatDoor
namespace Go.Proofs.YtjijjfkalheokaaGreatDoor
set_option linter.unusedVariables false
set_option linter.unusedSimpArgs false
open Go.RowKit
set_option maxRecDepth 100000

def Ei {α:Type} [DecidableEq α] (p:α):List α->List α
 | []=>[]
 | y :: ys=>if y=p then Ei p ys else y :: Ei y ys
def LJ {α:Type} [DecidableEq α]:List α->List α
 | []=>[]
 | x :: xs=>x :: Ei x xs
section
variable {α : Type} [DecidableEq α]
theorem GW {r ys:List α} {m p:Nat} {a b:α} (h:r=ys.take m++Ei a (ys.drop p)) (hm:m<=p) (hb:ys[p]?=some b):
  (b=a->r=ys.take m++Ei b (ys.drop (p+1)))/\
  (b ≠ a->r=(ys.set m b).take (m+1)++Ei b ((ys.set m b).drop (p+1)))/\(b ≠ a->m=p->ys.set m b=ys):=by
 have hl:=(List.getElem?_eq_some_iff.1 hb).1
 have hbe:ys[p]=b:=(List.getElem?_eq_some_iff.1 hb).2
 have hd:ys.drop p=b :: ys.drop (p+1):=by
  rw [List.drop_eq_getElem_cons hl,hbe]
 rw [hd] at h
 refine ⟨fun e=>?_,fun e=>?_,fun _ e=>?_⟩
 rotate_left 2
 ·subst e;rw [<- hbe];exact List.set_getElem_self hl
 ·rw [h,e];simp [Ei]
 have h2:(ys.set m b).drop (p+1)=ys.drop (p+1):=by rw [List.drop_set,if_pos (by omega)]
 have h3:(ys.set m b).take (m+1)=ys.take m++[b]:=by
  rw [List.take_add_one,List.take_set_of_le (Nat.le_refl m)]
  simp [List.getElem?_set,show m<ys.length by omega]
 rw [h,h2,h3]
 simp [Ei,e]
theorem N9 {r ys:List α} {m p:Nat} {a:α} (h:r=ys.take m++Ei a (ys.drop p)) (hp:ys.length<=p):r=ys.take m:=by
 rw [h,List.drop_eq_nil_of_le hp];simp [Ei]
end
def CE (L:List (List Int)):List C:=L.map fun x=>C.t 1 (Ab x)
theorem Kp:∀ (zs cs:List C) (off:Nat),off+zs.length=cs.length->DJ cs off zs=cs.take off++zs
 | [],cs,off,h=>by simp [DJ] at h ⊢;rw [gE7 (by omega)]
 | x :: r,cs,off,h=>by
  simp only [DJ]
  rw [Kp r _ (off+1) (by simp at h ⊢;omega)]
  rw [List.take_add_one,List.take_set_of_le (Nat.le_refl _)]
  simp [List.getElem?_set,show off<cs.length by simp at h;omega]
end Go.Proofs.YtjijjfkalheokaaGreatDoor
