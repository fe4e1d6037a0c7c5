/- Lemmas. -/
import Derived.Test.YtjijjfkalheokaaGreatDoorG67
import Derived.Test.YtjijjfkalheokaaGreatDoorG45
import Derived.Test.YtjijjfkalheokaaGreatDoorG39
import Derived.Test.YtjijjfkalheokaaGreatDoorDl2
import Derived.Test.YtjijjfkalheokaaGreatDoorZk
import Derived.Test.YtjijjfkalheokaaGreatDoorMK
import Derived.Test.YtjijjfkalheokaaGreatDoorMit
import Derived.Lib.TrailingZeros
import Derived.Test.YtjijjfkalheokaaGreatDoorG42
namespace Go.Proofs.YtjijjfkalheokaaGreatDoor
set_option linter.unusedVariables false
set_option linter.unusedSimpArgs false
open Go.RowKit
set_option maxRecDepth 100000
attribute [local go_sem] lga C.pl C.one

def rL (n:Nat) (B:List Bool):List Int:=((List.range n).filter (Bu B)).map Int.ofNat
theorem Kx (n:Nat) (B:List Bool):(rL n B).length<=n:=by
 unfold rL
 rw [List.length_map]
 have:=List.length_filter_le (Bu B) (List.range n)
 rwa [List.length_range] at this
def Cy (R:List (List Ar)) (s:Nat):Prop:=∃ w,w∈WP true R s/\Rc (WP true R) w s
def CyL (R:List (List Ar)) (k:Nat) (Ls:List Nat):Prop:=Ls.length<=k/\∀ g,g∈Ls↔g<k/\Cy R g
theorem CyL.yes {R:List (List Ar)} {k:Nat} {Ls:List Nat} (h:CyL R k Ls) (hc:Cy R k):CyL R (k+1) (Ls++[k]):=by
 refine ⟨by simp only [List.length_append,List.length_singleton];have:=h.1;omega,fun g=>?_⟩
 rw [List.mem_append,h.2,List.mem_singleton]
 constructor
 ·rintro (⟨h1,h2⟩ | rfl)
  ·exact ⟨by omega,h2⟩
  exact ⟨by omega,hc⟩
 rintro ⟨h1,h2⟩
 by_cases e:g=k
 ·exact .inr e
 exact .inl ⟨by omega,h2⟩
def WA (R:List (List Ar)) (s:Nat) (e:Int) (u:Nat):Prop:=(e=0/\Rc (WP true R) s u)\/(e ≠ 0/\∃ t,Rc (WP true R) s t/\∃ a∈R.getD t [],a.1=e/\Rc (WP true R) a.2.toNat u)
def U1 (R:List (List Ar)) (s:Nat) (e:Int) (L:List Int):Prop:=∃ B:List Bool,B.length=R.length/\L=rL R.length B/\∀ u,u<R.length->(Bu B u=true↔WA R s e u)
theorem UU {n:Nat} {B:List Bool}:∀ x∈rL n B,0<=x/\x<(n:Int):=fun x hx=>by
 unfold rL at hx
 obtain ⟨u,hu,rfl⟩:=List.mem_map.1 hx
 have:=(List.mem_filter.1 hu).1
 rw [List.mem_range] at this
 simp only [Int.ofNat_eq_natCast];omega
noncomputable def XI (R:List (List Ar)) (s:Nat) (e:Int):List Int:=rL R.length ((List.range R.length).map fun u=>@decide (WA R s e u) (Classical.propDecidable _))
theorem Rh (R:List (List Ar)) (s:Nat) (e:Int):U1 R s e (XI R s e):=by
 refine ⟨(List.range R.length).map fun u=>@decide (WA R s e u) (Classical.propDecidable _),by simp,rfl,fun u hu=>?_⟩
 unfold Bu
 rw [gE2,List.getElem?_map,List.getElem?_range hu]
 exact @decide_eq_true_iff _ (Classical.propDecidable _)
theorem NJ {R:List (List Ar)} (_hlo:BE R=true) {s:Nat} {e:Int} (_hs:s<R.length):(XI R s e).length<=R.length/\∀ x∈XI R s e,0<=x/\x<(R.length:Int):=⟨Kx _ _,fun x hx=>UU x hx⟩
noncomputable def XJ (R:List (List Ar)) (s:Nat) (e:Int):List Ar:=(XI R s e).map fun u=>(e,u)
noncomputable def XK (R:List (List Ar)) (Ev:List Int) (s k:Nat):List Ar:=(Ev.take k).flatMap (XJ R s)
noncomputable def XL (R:List (List Ar)) (Ev:List Int) (s:Nat):List Ar:=XK R Ev s Ev.length
noncomputable def XM (R:List (List Ar)) (Ev:List Int) (k:Nat):List (List Ar):=(List.range k).map (XL R Ev)
theorem Fc (R:List (List Ar)) (Ev:List Int) (k:Nat):(XM R Ev k).length=k:=by simp [XM]
theorem KR {R:List (List Ar)} {Ev:List Int} {s k:Nat} (h:k<Ev.length):XK R Ev s (k+1)=XK R Ev s k++XJ R s Ev[k]:=by
 unfold XK
 rw [gE8 h,List.flatMap_append]
 simp
theorem NK {R:List (List Ar)} (hlo:BE R=true) {Ev:List Int} {s:Nat} (hs:s<R.length):∀ k,k<=Ev.length->(XK R Ev s k).length<=k*R.length:=by
 intro k
 induction k with
 | zero=>intro _;simp [XK]
 | succ k ih=>
  intro hk
  have h1:=ih (by omega)
  have h2:=(NJ hlo (e:=Ev[k]) hs).1
  rw [KR hk,List.length_append,XJ,List.length_map,Nat.succ_mul]
  omega
noncomputable def C9 (R:List (List Ar)):List (List Ar):=XM R (Xn R R.length) R.length
theorem Ht {R:List (List Ar)} (hv:Bv R=true) (hn:R.length<=100):(C9 R).length=R.length/\∀ r∈C9 R,r.length<=1000000/\∀ a∈r,0<=a.2/\a.2<(R.length:Int):=by
 have hlo:BE R=true:=gEg (gE4 hv).1
 have hl:(C9 R).length=R.length:=Fc _ _ _
 have hev:=Iz (R:=R) (fun r hr a ha=>by have:=(gE4 hlo).2.2.2 r hr a ha;omega) R.length (Nat.le_refl _)
 have hevl:(Xn R R.length).length<=1026:=Ix hev.1 (by simpa using hev.2.1)
 refine ⟨hl,fun r hr=>?_⟩
 obtain ⟨s,hs,rfl⟩:=List.mem_map.1 hr
 rw [List.mem_range] at hs
 have h1:=NK hlo (Ev:=Xn R R.length) hs _ (Nat.le_refl _)
 have h2:(Xn R R.length).length*R.length<=1026*100:=Nat.mul_le_mul hevl hn
 refine ⟨by unfold XL;omega,fun a ha=>?_⟩
 unfold XL XK at ha
 obtain ⟨e,_,h⟩:=List.mem_flatMap.1 ha
 obtain ⟨x,hx,rfl⟩:=List.mem_map.1 h
 exact (NJ hlo hs).2 x hx
def XN (cl:List Int) (a:Ar):Option Ar:=if a.1 ≠ 0 then some (a.1,cl.getD a.2.toNat 0) else none
def XO (cl:List Int) (row:List Ar):List Ar:=row.filterMap (XN cl)
def XP (cl:List Int) (X:List (List Ar)) (s:Nat):List Ar:=(0,cl.getD s 0) :: XO cl (X.getD s [])
def XQ (f:Nat->Nat) (cl:List Int) (X:List (List Ar)) (k c:Nat):List Ar:=((List.range k).filter fun s=>f s == c).flatMap (XP cl X)
def XR (f:Nat->Nat) (cl:List Int) (X:List (List Ar)) (k:Nat):List (List Ar):=(List.range X.length).map (XQ f cl X k)
theorem Sg (cl:List Int) (row:List Ar):(XO cl row).length<=row.length:=List.length_filterMap_le _ _
theorem NM (f:Nat->Nat) (cl:List Int) (X:List (List Ar)) (k:Nat):(XR f cl X k).length=X.length:=by simp [XR]
theorem Sh {f:Nat->Nat} {cl:List Int} {X:List (List Ar)} {k c:Nat} (h:c<X.length):(XR f cl X k)[c]?=some (XQ f cl X k c):=by simp [XR,h]
theorem Q7 (f:Nat->Nat) (cl:List Int) (X:List (List Ar)) (k c:Nat):XQ f cl X (k+1) c=XQ f cl X k c++if f k=c then XP cl X k else []:=by
 unfold XQ
 rw [List.range_succ,List.filter_append,List.flatMap_append]
 congr 1
 by_cases h:f k=c
 ·simp [h]
 simp [h]
theorem NN (f:Nat->Nat) (cl:List Int) (X:List (List Ar)) (c:Nat):∀ k,k<=X.length->(XQ f cl X k c).length<=k+Bw (X.take k):=by
 intro k
 induction k with
 | zero=>intro _;simp [XQ]
 | succ k ih=>
  intro hk
  have h1:=ih (by omega)
  have h2:=Cj (R:=X) (k:=k) hk
  have h3:=Sg cl X[k]
  have h4:X.getD k []=X[k]:=by rw [gE2,gE1 hk];rfl
  rw [Q7,List.length_append]
  split
  ·unfold XP;rw [h4,List.length_cons];omega
  simp;omega
def XS (E:List Ed) (c:Nat):List Int:=(E.filter fun e=>e.1 == c).map fun e=>(e.2:Int)
def XT (n:Nat) (E:List Ed):List (List Int):=(List.range n).map (XS E)
theorem Si {n:Nat} {E:List Ed} {c:Nat} (h:c<n):(XT n E)[c]?=some (XS E c):=by simp [XT,h]
theorem NO {E:List Ed} {c:Nat} {x:Int}:x∈XS E c↔∃ t:Nat,x=(t:Int)/\(c,t)∈E:=by
 unfold XS
 simp only [List.mem_map,List.mem_filter,beq_iff_eq]
 constructor
 rotate_left
 ·rintro ⟨t,rfl,h⟩
  exact ⟨(c,t),⟨h,rfl⟩,rfl⟩
 rintro ⟨e,⟨h1,h2⟩,rfl⟩
 exact ⟨e.2,rfl,by rw [<- h2];exact h1⟩
def XU (O:List (List Ar)) (nx:List Int):List Ar:=nx.flatMap fun t=>O.getD t.toNat []
def XV (N:List (List Int)) (O:List (List Ar)) (c:Nat):List (List Ar):=O.set c (Cq (O.getD c []++XU O (N.getD c [])))
theorem Sj (N:List (List Int)) (O:List (List Ar)) (c:Nat):(XV N O c).length=O.length:=by simp [XV]
theorem Da {α:Type} [DecidableEq α]:∀ {l m:List α},l.Nodup->(∀ x∈l,x∈m)->l.length<=m.length
 | [],_,_,_=>Nat.zero_le _
 | a :: l,m,h,hs=>by
  have h2:=List.nodup_cons.1 h
  have ha:=hs a List.mem_cons_self
  have ih:=Da (m:=m.erase a) h2.2 fun x hx=>(List.mem_erase_of_ne (fun e=>h2.1 (by rw [<- e];exact hx))).2 (hs x (gEf _ hx))
  have h3:=List.length_erase_of_mem ha
  have h4:=List.length_pos_of_mem ha
  simp only [List.length_cons]
  omega
theorem Jr {l:List Ar} (h:SortA l):l.Nodup:=h.imp fun {a b} hab=>by
 rintro rfl
 rw [Ef] at hab;cases hab
def XW (cl:List Int) (X:List (List Ar)):List Ar:=(List.range X.length).flatMap (XP cl X)
theorem Sk (cl:List Int) (X:List (List Ar)):(XW cl X).length<=X.length+Bw X:=by
 have h:XW cl X=XQ (fun _=>0) cl X X.length 0:=by
  unfold XW XQ
  rw [List.filter_eq_self.2 (fun _ _=>by simp)]
 rw [h]
 have:=NN (fun _=>0) cl X 0 X.length (Nat.le_refl _)
 rwa [List.take_length] at this
structure P3 (f:Nat->Nat) (cl:List Int) (X:List (List Ar)) (Q:List Nat) (i:Nat) (O:List (List Ar)):Prop where
 len:O.length=X.length
 sz:∀ c,(O.getD c []).length<=X.length+Bw X
 sub:∀ c,∀ x∈O.getD c [],x∈XW cl X
 raw:∀ c,c<X.length->c ∉ Q.take i->O.getD c []=XQ f cl X X.length c
 don:∀ c,c∈Q.take i->SortA (O.getD c [])/\∀ x,x∈O.getD c []↔∃ s,s<X.length/\Rc (WP true X) c s/\x∈XP cl X s
theorem Hu (f:Nat->Nat) (cl:List Int) (X:List (List Ar)) (k:Nat) {c:Nat} (h:c<X.length):(XR f cl X k).getD c []=XQ f cl X k c:=by rw [gE2,Sh h];rfl
theorem P3.start (f:Nat->Nat) (cl:List Int) (X:List (List Ar)) (Q:List Nat):P3 f cl X Q 0 (XR f cl X X.length):=by
 have out:∀ c,¬ c<X.length->(XR f cl X X.length).getD c []=[]:=fun c h=>by rw [gE2,List.getElem?_eq_none (by rw [NM];omega)];rfl
 refine ⟨NM _ _ _ _,fun c=>?_,fun c x hx=>?_,fun c hc _=>Hu _ _ _ _ hc,fun c hc=>by simp at hc⟩
 ·by_cases h:c<X.length
  rotate_left
  ·rw [out c h];simp
  rw [Hu _ _ _ _ h]
  have:=NN f cl X c X.length (Nat.le_refl _)
  rwa [List.take_length] at this
 by_cases h:c<X.length
 rotate_left
 ·rw [out c h] at hx;simp at hx
 rw [Hu _ _ _ _ h] at hx
 obtain ⟨s,h1,h2⟩:=List.mem_flatMap.1 hx
 exact List.mem_flatMap.2 ⟨s,(List.mem_filter.1 h1).1,h2⟩
theorem Js {X:List (List Ar)} {D:List Int} (hv:Bv X=true) (h:CpOk X D) {v s:Nat} (hvl:v<X.length) (hr:Rc (WP true X) v s):XG D v=XG D s\/∃ t,(XG D v,t)∈Xy (XG D) X X.length/\Rc (WP true X) t s:=by
 have hlo:BE X=true:=gEg (gE4 hv).1
 have hE:=Cw true hlo
 induction hr with
 | refl=>exact .inl rfl
 | @tail u w h1 h2 ih=>
  rcases ih with e | ⟨t,e1,e2⟩
  rotate_left
  ·exact .inr ⟨t,e1,e2.tail h2⟩
  by_cases ew:XG D u=XG D w
  ·exact .inl (e.trans ew)
  have hu:=h1.lt hvl hE
  have hw:=hE _ hu _ h2
  refine .inr ⟨XG D w,?_,(BN hv h hw).2.2.2.1⟩
  rw [Fb]
  rw [Gs hv] at h2
  exact ⟨u,hu,(0,(w:Int)),h2,rfl,by simpa using ew,by rw [e];simp⟩
theorem Ua {X:List (List Ar)} {D:List Int} (hv:Bv X=true) (h:CpOk X D) {c t:Nat} (he:(c,t)∈Xy (XG D) X X.length):Rc (WP true X) c t:=by
 have hlo:BE X=true:=gEg (gE4 hv).1
 obtain ⟨s,hs,a,ha,h0,hne,e⟩:=Fb.1 he
 cases e
 have hg:X.getD s []=X[s]:=by rw [gE2,gE1 hs];rfl
 have hb:=(gE4 hlo).2.2.2 _ (gE6 hs) a (by rw [<- hg];exact ha)
 have ht:a.2.toNat<X.length:=by omega
 have hadj:a.2.toNat∈WP true X s:=by
  rw [Gs hv]
  have:((0:Int),((a.2.toNat:Nat):Int))=a:=by
   rcases a with ⟨x,y⟩
   simp only at h0 hb ⊢
   rw [h0];congr 1;omega
  rw [this];exact ha
 exact ((BN hv h hs).2.2.2.1.trans (.one hadj)).trans (BN hv h ht).2.2.1
theorem P3.step {X:List (List Ar)} {D cl:List Int} {Q:List Nat} {O:List (List Ar)} {i:Nat} (hv:Bv X=true) (h:CpOk X D) (hQ:Hr (Xy (XG D) X X.length) X.length (XG D) Q) (hP:P3 (XG D) cl X Q i O) {c:Nat} (hi:Q[i]?=some c):P3 (XG D) cl X Q (i+1) (XV (XT X.length (Xy (XG D) X X.length)) O c):=by
 have hlo:BE X=true:=gEg (gE4 hv).1
 have hE:=Cw true hlo
 obtain ⟨hnd,hmem,htop⟩:=hQ
 have hil:i<Q.length:=(List.getElem?_eq_some_iff.1 hi).1
 have hcQ:c∈Q:=gE9 hi
 obtain ⟨hc,hfc⟩:=(hmem c).1 hcQ
 have hcn:c ∉ Q.take i:=fun hin=>by
  obtain ⟨j,hj,e⟩:=List.mem_take_iff_getElem.1 hin
  have h1:=(List.getElem?_eq_some_iff.1 hi).2
  have h2:Q[j]'(by omega)=Q[i]:=e.trans h1.symm
  have:=(List.getElem_inj hnd).1 h2
  omega
 have hsucc:Q.take (i+1)=Q.take i++[c]:=by
  rw [gE8 hil,(List.getElem?_eq_some_iff.1 hi).2]
 have hN:(XT X.length (Xy (XG D) X X.length)).getD c []=XS (Xy (XG D) X X.length) c:=by rw [gE2,Si hc];rfl
 have hself:(XV (XT X.length (Xy (XG D) X X.length)) O c).getD c []=Cq (O.getD c []++XU O (XS (Xy (XG D) X X.length) c)):=by
  unfold XV
  rw [hN,gE2,gEc (by rw [hP.len];exact hc)];rfl
 have hoth:∀ d,d ≠ c->(XV (XT X.length (Xy (XG D) X X.length)) O c).getD d []=O.getD d []:=fun d hd=>by
  unfold XV
  rw [gE2,gE5 (Ne.symm hd),<- gE2]
 have hin:∀ x,x∈O.getD c []++XU O (XS (Xy (XG D) X X.length) c)->x∈XW cl X:=fun x hx=>by
  rcases List.mem_append.1 hx with hx | hx
  ·exact hP.sub _ _ hx
  obtain ⟨t,_,ht⟩:=List.mem_flatMap.1 hx
  exact hP.sub _ _ ht
 have hmemc:∀ x,x∈O.getD c []++XU O (XS (Xy (XG D) X X.length) c)↔∃ s,s<X.length/\Rc (WP true X) c s/\x∈XP cl X s:=by
  intro x
  rw [List.mem_append,hP.raw c hc hcn]
  constructor
  rotate_left
  ·rintro ⟨s,hs,h1,h2⟩
   rcases Js hv h hc h1 with e | ⟨t,he,h3⟩
   ·refine .inl (List.mem_flatMap.2 ⟨s,List.mem_filter.2 ⟨by simpa using hs,?_⟩,h2⟩)
    rw [hfc] at e;simp [e]
   rw [hfc] at he
   refine .inr (List.mem_flatMap.2 ⟨(t:Int),NO.2 ⟨t,rfl,he⟩,?_⟩)
   simp only [Int.toNat_natCast]
   obtain ⟨j,hj,hjt⟩:=htop i c hi _ he rfl
   have ht:t∈Q.take i:=by
    rw [List.mem_take_iff_getElem]
    have h5:=List.getElem?_eq_some_iff.1 hjt
    exact ⟨j,by have:=h5.1;omega,h5.2⟩
   exact ((hP.don t ht).2 x).2 ⟨s,hs,h3,h2⟩
  rintro (hx | hx)
  ·obtain ⟨s,h1,h2⟩:=List.mem_flatMap.1 hx
   have h3:=List.mem_filter.1 h1
   have hs:s<X.length:=by simpa using h3.1
   have hfs:XG D s=c:=by simpa using h3.2
   refine ⟨s,hs,?_,h2⟩
   rw [<- hfs];exact (BN hv h hs).2.2.2.1
  obtain ⟨t,h1,h2⟩:=List.mem_flatMap.1 hx
  obtain ⟨t,rfl,he⟩:=NO.1 h1
  (try simp only [Int.toNat_natCast] at h2)
  obtain ⟨j,hj,hjt⟩:=htop i c hi _ he rfl
  have ht:t∈Q.take i:=by
   rw [List.mem_take_iff_getElem]
   have h5:=List.getElem?_eq_some_iff.1 hjt
   exact ⟨j,by have:=h5.1;omega,h5.2⟩
  obtain ⟨s,hs,h3,h4⟩:=((hP.don t ht).2 x).1 h2
  exact ⟨s,hs,(Ua hv h he).trans h3,h4⟩
 refine ⟨by rw [Sj,hP.len],fun d=>?_,fun d x hx=>?_,fun d hd hdn=>?_,fun d hd=>?_⟩
 ·by_cases e:d=c
  rotate_left
  ·rw [hoth d e];exact hP.sz d
  subst e
  rw [hself]
  refine Nat.le_trans (Da (m:=XW cl X) (Jr (B9 _)) fun x hx=>hin x ((C8 _ _).1 hx)) (Sk cl X)
 ·by_cases e:d=c
  rotate_left
  ·rw [hoth d e] at hx;exact hP.sub d x hx
  subst e
  rw [hself,C8] at hx
  exact hin x hx
 ·rw [hsucc] at hdn
  have e:d ≠ c:=fun e=>hdn (by rw [e];simp)
  rw [hoth d e]
  exact hP.raw d hd fun h=>hdn (List.mem_append_left _ h)
 rw [hsucc] at hd
 rcases List.mem_append.1 hd with h1 | h1
 ·have e:d ≠ c:=fun e=>hcn (by rw [<- e];exact h1)
  rw [hoth d e]
  exact hP.don d h1
 have e:d=c:=by simpa using h1
 subst e
 rw [hself]
 exact ⟨B9 _,fun x=>by rw [C8];exact hmemc x⟩
theorem P3.done {X:List (List Ar)} {D cl:List Int} {Q:List Nat} {O:List (List Ar)} (hv:Bv X=true) (h:CpOk X D) (hQ:Hr (Xy (XG D) X X.length) X.length (XG D) Q) (hP:P3 (XG D) cl X Q Q.length O) {s:Nat} (hs:s<X.length):O.getD (XG D s) []=Xi (Tt X) cl s:=by
 obtain ⟨_,p2,p3,p4,p5⟩:=BN hv h hs
 have hin:XG D s∈Q.take Q.length:=by rw [List.take_length];exact (hQ.2.1 _).2 ⟨p2,p5⟩
 obtain ⟨h1,h2⟩:=hP.don _ hin
 refine Cg h1 (B9 _) fun x=>?_
 have hE:=Cw true (gEg (gE4 hv).1:BE X=true)
 rw [h2]
 refine Iff.trans ?_ (DG (S:=Tt X) (c:=cl) (s:=s) (x:=x)).symm
 constructor
 rotate_left
 ·rintro ⟨a,ha,rfl⟩
  rcases (Hp hv hs).1 ha with ⟨h0,u,e,h3⟩ | ⟨h0,t,h3,h4⟩
  ·have hu:=h3.lt hs hE
   refine ⟨u,hu,p4.trans h3,List.mem_cons.2 (.inl ?_)⟩
   rw [h0,e];simp
  refine ⟨t,h3.lt hs hE,p4.trans h3,gEf _ (List.mem_filterMap.2 ⟨a,h4,?_⟩)⟩
  unfold XN
  rw [if_pos h0]
 rintro ⟨u,hu,h3,h4⟩
 have hsu:=p3.trans h3
 rcases List.mem_cons.1 h4 with rfl | h4
 ·exact ⟨(0,(u:Int)),(Hp hv hs).2 (.inl ⟨rfl,u,rfl,hsu⟩),by simp⟩
 obtain ⟨a,ha,e⟩:=List.mem_filterMap.1 h4
 unfold XN at e
 split at e
 rotate_left
 ·cases e
 rename_i h0
 cases e
 exact ⟨a,(Hp hv hs).2 (.inr ⟨h0,u,hsu,ha⟩),rfl⟩
def Dq (acc:List Int) (a:Ar):List Int:=if acc.getLast?=some a.1 then acc else acc++[a.1]
def E5 (r:List Ar):List Int:=r.foldl Dq []
theorem Ju (acc:List Int) (a:Ar):(Dq acc a).length<=acc.length+1:=by unfold Dq;split <;> simp
theorem NS {r:List Ar} {k:Nat} (h:k<r.length):E5 (r.take (k+1))=Dq (E5 (r.take k)) r[k]:=by
 unfold E5
 rw [gE8 h,List.foldl_append];rfl
theorem KS (r:List Ar):(E5 r).length<=r.length:=by
 have:∀ (r:List Ar) (acc:List Int),(r.foldl Dq acc).length<=acc.length+r.length:=by
  intro r
  induction r with
  | nil=>intro acc;simp
  | cons a r ih=>
   intro acc
   have h1:=ih (Dq acc a)
   have h2:=Ju acc a
   simp only [List.foldl_cons,List.length_cons]
   omega
 simpa [E5] using this r []
set_option maxHeartbeats 1000000 in
theorem Jv (R:List (List Ar)) (s:Nat) (h:s<R.length) (hn:R.length<=1000000) (hr:∀ r∈R,r.length<=1000000):FC Tryz.prog 59 [B7 R,.i s] [] (fun r o=>o=[.r ⟨3,1,true,A7 (E5 R[s])⟩]/\r=.a (.c (.s 0 (E5 R[s]).length))):=by
 refine A6 Tryz.func59 rfl (by rw [Tryz.ntmps59];simp) ?_
 rw [Tryz.ntmps59]
 simp only [Bf,B7]
 have hg:=gE1 h
 have hrl:=hr _ (gE6 h)
 generalize R[s]=row at *
 (refine Wu (an @A3 (an (Ag hg) (an @A2 @Ak))) ?_;(repeat clear hK K);repeat refine kq fun K hK=>?_)
 refine Au (CT 5 3 1 ?_) ?_
 ·simp only [go_sem]
 refine A8 (fun k:Nat=>{ tm:=[(5,.a (.c (.s 1 (E5 (row.take k)).length))),(12,.a (.c (.t 2 (Ao row)))),(13,.i row.length),(14,.i k)],hp:=[.r ⟨25,1,false,[.t 1 (Ah R)]⟩,.r ⟨3,1,true,A7 (E5 (row.take k))⟩],n:=39,pin:=0 }) (fun k=>k<=row.length) (fun k=>row.length - k) 0 ?_ ?_ ?_
 ·omega
 ·simp only [List.take_zero,E5,List.foldl_nil,List.length_nil]
  exact WE
 rintro k hk K hK
 by_cases hlt:k<row.length
 rotate_left
 ·have d1:decide ((k:Int)<(row.length:Int))=false:=by simpa using hlt
  have hke:row.take k=row:=gE7 (by omega)
  rw [hke]
  (refine Wu @d1 ?_;(repeat clear hK K);repeat refine kq fun K hK=>?_)
  refine WC ?_
  (refine Wx ?_;repeat clear hK K)
  (refine Wt ?_;(repeat clear hK K);repeat refine kq fun K hK=>?_)
  exact RG [1] Tryz.results59 @Af
 have d1:decide ((k:Int)<(row.length:Int))=true:=by simpa using hlt
 have hat:=AL hlt
 have hlen:=KS (row.take k)
 have hst:=NS hlt
 have htk:(row.take k).length<=k:=by simp;omega
 generalize E5 (row.take k)=acc at *
 have op:=Ho acc row[k].1
 have fin:∀ b,E5 (row.take (k+1))=b->b=Dq acc row[k]:=fun b h=>by rw [<- h,hst]
 clear hst
 (refine Wu @d1 ?_;(repeat clear hK K);repeat refine kq fun K hK=>?_)
 refine WB ?_
 (refine Cn (an @hat (an @A2 @Ak)) ?_;(repeat clear hK K);repeat refine kq fun K hK=>?_)
 by_cases h0:acc.length=0
 ·have d2:((acc.length:Int) == 0)=true:=by simp [h0]
  have hs:E5 (row.take (k+1))=acc++[row[k].1]:=by
   rw [fin _ rfl]
   have:acc=[]:=List.length_eq_zero_iff.1 h0
   subst this;rfl
  (refine Ac 13 [(0,0),(1,0),(2,0),(3,0),(4,0),(5,0),(6,0),(7,0),(8,0),(9,1),(10,0),(11,1),(12,0),(13,2)] (by kernel_rfl) (by kernel_rfl) (by intro c st h;simp [Ae,AF,VT] at h) ?_)
  (refine Wo (an @d2 @A5) ?_;repeat clear hK K)
  refine WB ?_
  (refine Wu (an @A5 @op) ?_;(repeat clear hK K);repeat refine kq fun K hK=>?_)
  refine WD ?_
  refine hK _ (k+1) (by omega) (by omega) ?_
  rw [hs]
  refine Le.trans (A9 [0,4] rfl rfl) ?_
  (try simp only [List.set_nil,List.take_nil,List.take_zero,List.map_append,go_sem])
  (try simp only [Af])
  simp only [List.length_append,List.length_cons,List.length_nil]
  exact WE
 have d2:((acc.length:Int) == 0)=false:=by simp;intro e;simp [e] at h0
 obtain ⟨m,hm⟩:∃ m,acc.length=m+1:=⟨acc.length - 1,by omega⟩
 have e3:(acc.length:Int) - 1=(m:Int):=by omega
 have gl:acc[m]?=some acc[m]:=gE1 (by omega)
 have ge:(A7 acc)[m]?=some (.v (.int .i64 acc[m])):=Aq gl
 have hlast:acc.getLast?=some acc[m]:=by
  have e:acc.length - 1=m:=by omega
  rw [List.getLast?_eq_getElem?,e];exact gl
 by_cases hq:acc[m]=row[k].1
 ·have d3:(acc[m] != row[k].1)=false:=by simpa using hq
  have hs:E5 (row.take (k+1))=acc:=by
   rw [fin _ rfl,Dq,if_pos (by rw [hlast,hq])]
  (refine Ac 13 [(0,0),(1,0),(2,0),(3,0),(4,0),(5,0),(6,0),(7,0),(8,0),(9,1),(10,0),(11,1),(12,0),(13,2)] (by kernel_rfl) (by kernel_rfl) (by intro c st h;simp [Ae,AF,VT] at h) ?_)
  (refine Wo (an @d2 (an @A5 (an @e3 (an @ge @d3)))) ?_;repeat clear hK K)
  refine WC ?_
  (refine Wt ?_;(repeat clear hK K);repeat refine kq fun K hK=>?_)
  refine WD ?_
  refine hK _ (k+1) (by omega) (by omega) ?_
  rw [hs]
  refine Le.trans (A9 [0,1] rfl rfl) ?_
  (try simp only [List.set_nil,List.take_nil,List.take_zero,List.map_append,go_sem])
  (try simp only [Af])
  exact WE
 have d3:(acc[m] != row[k].1)=true:=by simpa using hq
 have hs:E5 (row.take (k+1))=acc++[row[k].1]:=by
  rw [fin _ rfl,Dq,if_neg (by rw [hlast];simpa using hq)]
 (refine Ac 13 [(0,0),(1,0),(2,0),(3,0),(4,0),(5,0),(6,0),(7,0),(8,0),(9,1),(10,0),(11,1),(12,0),(13,2)] (by kernel_rfl) (by kernel_rfl) (by intro c st h;simp [Ae,AF,VT] at h) ?_)
 (refine Wo (an @d2 (an @A5 (an @e3 (an @ge @d3)))) ?_;repeat clear hK K)
 refine WB ?_
 (refine Wu (an @A5 @op) ?_;(repeat clear hK K);repeat refine kq fun K hK=>?_)
 refine WD ?_
 refine hK _ (k+1) (by omega) (by omega) ?_
 rw [hs]
 refine Le.trans (A9 [0,4] rfl rfl) ?_
 (try simp only [List.set_nil,List.take_nil,List.take_zero,List.map_append,go_sem])
 (try simp only [Af])
 simp only [List.length_append,List.length_cons,List.length_nil]
 exact WE
section
variable {P : Program} {o : Oper} {st : ST} {K : ST -> Prop} {t kt e : TypeId} {s : Ks} {zv : Value} {id : Nat} {kv : List (Value × C)} {key : Value}
def XX (zv:Value) (ok:Bool):Option (Nat × C)->AV
 | some (_,c)=>match ok with
  | true=>.tup [.c c,.c (.v (.bool true))]
  | false=>.a (.c c)
 | none=>match ok with
  | true=>.tup [.c (.v zv),.c (.v (.bool false))]
  | false=>.a (.c (.v zv))
theorem Ci {x ix:Operand} {ok:Bool} {r:Option (Nat × C)} (hu:P.underlying t=some (.map kt e)) (hK:KeyOk P kt s) (hze:(P.info? e).bind (·.zero)=some zv)
  (hd:VJ o st.n=true) (ho:o.op=.lookup t x ix ok) (hx:st.ev x=.a (.c (.m id))) (hm:st.hp[id]?=some (.m kv)) (hpl:kv.all (fun p=>p.2.pl)=true) (hkey:EP (st.ev ix)=some key) (hfit:Fj s key=true) (hf:BJ s key kv 0=some r)
  (h:K (st.put o.dst (XX zv ok r))):Stp P o st K:=by
 refine ER hd (fun g w ρ hr hR=>?_) h
 obtain ⟨dst,op,ty,pos,af,gd⟩:=o
 simp only at ho
 subst ho
 have hz1:∀ w,(zeroValue e).run P w=.ok zv w:=by
  intro w
  cases hi:P.info? e with
  | none=>rw [hi] at hze;cases hze
  | some i=>
   rw [hi] at hze
   simp only [Option.bind_some] at hze
   simp [zeroValue,CS hi,hze]
 obtain ⟨es,clock,m1,m2,m3,m4⟩:=(hr.mp id kv hm).map hf
 have e1:=hR x
 rw [hx] at e1
 obtain ⟨_,e1⟩:=e1
 have e2:=hR ix
 have e2:=JR hkey e2
 have hKv:KvOk kv es.toList:=⟨by simpa using m2,fun i p hp=>by
  obtain ⟨⟨e,f1,f2,_⟩,_⟩:=m3 i p hp
  exact ⟨e,by simpa using f1,f2⟩⟩
 obtain ⟨q,hq⟩:∃ q,BZ s key key=some q:=by
  unfold Fj at hfit
  split at hfit
  ·exact ⟨_,‹_›⟩
  cases hfit
 have hck:=hK.ck key q hq es.isEmpty w
 cases r with
 | some p=>
  obtain ⟨j,c⟩:=p
  obtain ⟨h1,h2⟩:=Ja hK key w hKv hf
  obtain ⟨k',h3,h4⟩:=h2 j c rfl
  obtain ⟨⟨e,f1,f2,f3⟩,f4⟩:=m3 j _ h3
  have hc:CR g st.hp w c e.val:=by
   have:=List.all_eq_true.1 hpl _ (gE9 h3)
   exact CellR.cr this f3
  have hfnd:W9 es.toList 0 (some (j,c))=some (j,e.val):=by simp [W9,f1]
  rw [hfnd] at h1
  cases ok with
  | true=>
   refine ⟨.tuple #[e.val,.bool true],?_,[e.val,.bool true],rfl,rfl,fun i a ha=>?_⟩
   ·simp [execOp,Instr.lookup,run_underlying hu,e1,MapKept.run_getObj_map m1,e2,hck,h1]
   match i,ha with
   | 0,ha=>cases ha;exact ⟨_,rfl,hc⟩
   | 1,ha=>cases ha;exact ⟨_,rfl,rfl⟩
  | false=>
   refine ⟨e.val,?_,hc⟩
   simp [execOp,Instr.lookup,run_underlying hu,e1,MapKept.run_getObj_map m1,e2,hck,h1]
 | none=>
  obtain ⟨h1,_⟩:=Ja hK key w hKv hf
  have hfnd:W9 es.toList 0 none=none:=rfl
  rw [hfnd] at h1
  cases ok with
  | true=>
   refine ⟨.tuple #[zv,.bool false],?_,[zv,.bool false],rfl,rfl,fun i a ha=>?_⟩
   ·simp [execOp,Instr.lookup,run_underlying hu,e1,MapKept.run_getObj_map m1,e2,hck,h1,hz1 w]
   match i,ha with
   | 0,ha=>cases ha;exact ⟨_,rfl,rfl⟩
   | 1,ha=>cases ha;exact ⟨_,rfl,rfl⟩
  | false=>
   refine ⟨zv,?_,rfl⟩
   simp [execOp,Instr.lookup,run_underlying hu,e1,MapKept.run_getObj_map m1,e2,hck,h1,hz1 w]
theorem GY {m kx v:Operand} {c:C} (hu:P.underlying t=some (.map kt e)) (hK:KeyOk P kt s) (hd:VJ o st.n=true) (ho:o.op=.mapUpdate t m kx v) (hm:st.ev m=.a (.c (.m id))) (hmm:st.hp[id]?=some (.m kv)) (hpl:kv.all (fun p=>p.2.pl)=true)
  (hkey:EP (st.ev kx)=some key) (hfit:Fj s key=true) (hv:st.ev v=.a (.c c)) (hone:c.one=true) (hf:BJ s key kv 0=some none)
  (h:K ({ st with hp:=st.hp.set id (.m (kv++[(key,c)])) }.put o.dst .u)):Stp P o st K:=by
 obtain ⟨q,hq⟩:∃ q,BZ s key key=some q:=by
  unfold Fj at hfit
  split at hfit
  ·exact ⟨_,‹_›⟩
  cases hfit
 have hcell:∀ {g:Gh} {w:World} {u:Value},CR g st.hp w c u->CellR g st.hp w id 0 c u:=fun h=>Fg hone h
 have hcpl:c.pl=true:=by cases c <;> first | rfl | cases hone
 intro M0 w0 a w N Q hR hN
 obtain ⟨g,⟨hp1,hp2⟩,hR⟩:=hR
 have e1:=hR.ev m
 rw [hm] at e1
 obtain ⟨_,e1⟩:=e1
 have e2:=hR.ev kx
 have e2:=JR hkey e2
 have e3:=hR.ev v
 rw [hv] at e3
 obtain ⟨es,clock,m1,m2,m3,m4⟩:=(hR.hr.mp id kv hmm).map hf
 have hKv:KvOk kv es.toList:=⟨by simpa using m2,fun i p hp=>by
  obtain ⟨⟨e,f1,f2,_⟩,_⟩:=m3 i p hp
  exact ⟨e,by simpa using f1,f2⟩⟩
 obtain ⟨h1,_⟩:=Ja hK key w hKv hf
 have hfnd:W9 es.toList 0 none=none:=rfl
 rw [hfnd] at h1
 have hl:es.size=kv.length:=by simpa using hKv.1
 have r1:(Instr.mapUpdate t (.map (some (g.γ (.ob id)))) key (a.eval v)).run P w=.ok () { w with heap:=w.heap.setIfInBounds (g.γ (.ob id)) (.map (es.push { key:=key,val:=a.eval v,born:=clock }) (clock+1)) }:=by
  simp [Instr.mapUpdate,run_underlying hu,MapKept.run_getObj_map m1,hK.ck key q hq,h1,MapKept.run_setObj_map _ m1]
 have hset:=hR.mapset (es':=es.push { key:=key,val:=a.eval v,born:=clock }) (clock:=clock+1) (kv':=kv++[(key,c)]) hmm (by simp [hl]) (fun i p hp=>by
  rcases Nat.lt_or_ge i kv.length with hi | hi
  ·rw [gEa hi] at hp
   obtain ⟨⟨e',g1,g2,g3⟩,g4⟩:=m3 i p hp
   exact ⟨⟨e',by rw [Array.getElem?_push_lt (by omega)];rw [<- g1];simp [show i<es.size by omega],g2,g3⟩,g4⟩
  ·rw [gEb hi] at hp
   have hi':i=kv.length:=by
    have:=(List.getElem?_eq_some_iff.1 hp).1
    simp at this
    omega
   subst hi'
   simp at hp
   subst hp
   exact ⟨⟨{ key:=key,val:=a.eval v,born:=clock },by rw [<- hl];simp,rfl,hcell e3⟩,fun k' cs e=>by
    simp only at e
    rw [e] at hcpl;cases hcpl⟩) (m4.push _ _)
 have hrun:(execOp a.eval o).run P w=.ok .skip { w with heap:=w.heap.setIfInBounds (g.γ (.ob id)) (.map (es.push { key:=key,val:=a.eval v,born:=clock }) (clock+1)) }:=by
  unfold execOp
  simp [ho,e1,e2,r1]
 unfold Oper.wp
 rw [hrun]
 exact hN _ _ _ h ⟨g,⟨by cases o.dst <;> (simp [ST.put];omega),by cases o.dst <;> exact hp2⟩,hset.put (B3 hd) trivial⟩
theorem Sm {src d el:TypeId} {x:Operand} {n q:Nat} {sl:Bool} {cells:List C} {ns:List Int} (hu1:P.underlying src=some (.slice el)) (hu2:P.underlying d=some .string) (hu3:P.underlying el=some (.int .u8))
  (hd:VJ o st.n=true) (ho:o.op=.convert src d x) (hx:st.ev x=.a (.c (.s id n))) (hrow':st.hp[id]?=some (.r ⟨q,1,sl,cells⟩)) (hns:ns.length=n) (e1:cells.take n=ns.map (fun m=>C.v (.int .u8 m)))
  (h:K (st.put o.dst (.a (.c (.v (.string ⟨⟨ns.map fun (m:Int)=>UInt8.ofNat m.toNat⟩⟩)))))):Stp P o st K:=by
 refine ER hd (fun g w ρ hr hR=>?_) h
 obtain ⟨dst,op,ty,pos,af,gd⟩:=o
 simp only at ho
 subst ho
 have e2:=hR x
 rw [hx] at e2
 obtain ⟨_,hn,A,e2,e3,_⟩:=e2
 refine ⟨.string ⟨⟨ns.map fun (m:Int)=>UInt8.ofNat m.toNat⟩⟩,?_,rfl⟩
 have hconv:(Conv.bytesToString (.slice A n (g.κ id))).run P w=.ok (.string ⟨⟨ns.map fun (m:Int)=>UInt8.ofNat m.toNat⟩⟩) w:=by
  rcases hr.row id _ hrow' with ⟨h0,h2⟩ | ⟨h0,_,arr,ha,hla,hs,_,hcells⟩
  ·have hn0:n=0:=by omega
   subst hn0
   have:ns=[]:=List.eq_nil_of_length_eq_zero hns
   subst this
   cases A with
   | none=>simp [Conv.bytesToString,ByteArray.empty,ByteArray.emptyWithCapacity];rfl
   | some a=>simp [Conv.bytesToString,loadCells,loadCellsFrom,ByteArray.empty,ByteArray.emptyWithCapacity];rfl
  rw [e3 h0]
  have hload:(loadCells ⟨g.γ (.ob id),0,none⟩ n).run P w=.ok (ns.map (Value.int .u8)).toArray w:=by
   unfold loadCells
   rw [BO _ _ _ 0 (ns.map (Value.int .u8)) #[] (by simpa using hns) (fun q u hq=>?_)]
   ·simp
   rw [cell_of_row _ _ _ _ _ _ ha]
   rw [List.getElem?_map,Option.map_eq_some_iff] at hq
   obtain ⟨m,hm,rfl⟩:=hq
   have hlt:q<n:=by rw [<- hns];exact (List.getElem?_eq_some_iff.1 hm).1
   have hcq:cells[q]?=some (.v (.int .u8 m)):=by
    have:(cells.take n)[q]?=some (.v (.int .u8 m)):=by rw [e1];simp [hm]
    rw [List.getElem?_take,if_pos hlt] at this
    exact this
   obtain ⟨u,f1,f2⟩:=hcells q _ hcq
   have f2:u=.int .u8 m:=f2
   subst f2
   simpa using f1
  simp only [Conv.bytesToString,Sem.run_bind,hload,Result.andThen_ok]
  rw [MB (fun n s w=>by simp)]
  simp [ByteArray.empty,ByteArray.emptyWithCapacity]
  rfl
 simp [execOp,convert,run_underlying hu1,run_underlying hu2,e2,run_underlying hu3,hconv]
end
def kb (n:Int):List Int:=[IntKind.u8.wrap (n.fdiv (2 ^ (24:Int).toNat)),IntKind.u8.wrap (n.fdiv (2 ^ (16:Int).toNat)),IntKind.u8.wrap (n.fdiv (2 ^ (8:Int).toNat)),IntKind.u8.wrap n]
def Jw (xs:List Int):List Int:=xs.flatMap kb
def Jx (xs:List Int):Value:=.string ⟨⟨(Jw xs).map fun (m:Int)=>UInt8.ofNat m.toNat⟩⟩
def XY (l:List Int):List C:=l.map fun m=>C.v (.int .u8 m)
theorem Jy (l:List Int):(XY l).length=l.length:=by simp [XY]
theorem Sn (f:List Nat) (l:List Int):(XY l).map (C.ren f)=XY l:=by simp [XY,C.ren,Function.comp_def]
theorem CX (xs:List Int):(Jw xs).length=xs.length*4:=by
 unfold Jw
 induction xs with
 | nil=>rfl
 | cons x r ih=>rw [List.flatMap_cons,List.length_append,ih,List.length_cons];simp [kb];omega
theorem NT (xs:List Int) (x:Int):(XY (Jw xs)).take (xs.length*4)++[C.v (.int .u8 (IntKind.u8.wrap (x.fdiv (2 ^ (24:Int).toNat)))),C.v (.int .u8 (IntKind.u8.wrap (x.fdiv (2 ^ (16:Int).toNat)))),C.v (.int .u8 (IntKind.u8.wrap (x.fdiv (2 ^ (8:Int).toNat)))),C.v (.int .u8 (IntKind.u8.wrap x))]=XY (Jw (xs++[x])):=by
 rw [gE7 (by rw [Jy,CX];exact Nat.le_refl _)]
 unfold Jw XY
 simp [kb]
theorem Uc (n:Int):IntKind.u8.wrap n=n % 256:=by simp [IntKind.wrap,IntKind.signed,IntKind.bits]
theorem Ud {x y:Int} (hx:0<=x/\x<2147483648) (hy:0<=y/\y<2147483648) (h:kb x=kb y):x=y:=by
 unfold kb at h
 simp only [List.cons.injEq,and_true,Uc] at h
 obtain ⟨h1,h2,h3,h4⟩:=h
 have e:∀ z:Int,z.fdiv (2 ^ (24:Int).toNat)=z / 16777216/\z.fdiv (2 ^ (16:Int).toNat)=z / 65536/\z.fdiv (2 ^ (8:Int).toNat)=z / 256:=fun z=>⟨Int.fdiv_eq_ediv_of_nonneg z (by decide),Int.fdiv_eq_ediv_of_nonneg z (by decide),Int.fdiv_eq_ediv_of_nonneg z (by decide)⟩
 rw [(e x).1,(e y).1] at h1
 rw [(e x).2.1,(e y).2.1] at h2
 rw [(e x).2.2,(e y).2.2] at h3
 omega
theorem Ue (x:Int):∀ m∈kb x,0<=m/\m<256:=by
 intro m hm
 unfold kb at hm
 simp only [List.mem_cons,List.not_mem_nil,or_false,Uc] at hm
 rcases hm with rfl | rfl | rfl | rfl <;> omega
theorem KT:∀ {xs ys:List Int},(∀ x∈xs,0<=x/\x<2147483648)->(∀ y∈ys,0<=y/\y<2147483648)->Jw xs=Jw ys->xs=ys
 | [],[],_,_,_=>rfl
 | [],y :: ys,_,_,h=>by have:=congrArg List.length h;rw [CX,CX] at this;simp at this
 | x :: xs,[],_,_,h=>by have:=congrArg List.length h;rw [CX,CX] at this;simp at this
 | x :: xs,y :: ys,hx,hy,h=>by
  have h1:kb x++Jw xs=kb y++Jw ys:=h
  obtain ⟨h2,h3⟩:=List.append_inj h1 rfl
  rw [Ud (hx x (by simp)) (hy y (by simp)) h2,KT (fun a ha=>hx a (gEf _ ha)) (fun a ha=>hy a (gEf _ ha)) h3]
theorem KU (xs:List Int):∀ m∈Jw xs,0<=m/\m<256:=by
 intro m hm
 obtain ⟨x,_,hx⟩:=List.mem_flatMap.1 hm
 exact Ue x m hx
theorem GZ:∀ {l m:List Int},(∀ x∈l,0<=x/\x<256)->(∀ x∈m,0<=x/\x<256)->(l.map fun (m:Int)=>UInt8.ofNat m.toNat)=(m.map fun (m:Int)=>UInt8.ofNat m.toNat)->l=m
 | [],[],_,_,_=>rfl
 | [],y :: ys,_,_,h=>by simp at h
 | x :: xs,[],_,_,h=>by simp at h
 | x :: xs,y :: ys,hx,hy,h=>by
  simp only [List.map_cons,List.cons.injEq] at h
  have h1:=hx x (by simp)
  have h2:=hy y (by simp)
  have h3:=congrArg UInt8.toNat h.1
  simp only [UInt8.toNat_ofNat'] at h3
  have:x=y:=by omega
  rw [this,GZ (fun a ha=>hx a (gEf _ ha)) (fun a ha=>hy a (gEf _ ha)) h.2]
theorem Qb {xs ys:List Int} (hx:∀ x∈xs,0<=x/\x<2147483648) (hy:∀ y∈ys,0<=y/\y<2147483648) (h:Jx xs=Jx ys):xs=ys:=by
 unfold Jx at h
 injection h with h
 injection h with h
 injection h with h
 exact KT hx hy (GZ (KU _) (KU _) h)
set_option maxHeartbeats 1000000 in
theorem Uf (xs:List Int) (hn:xs.length<=100000000):FC Tryz.prog 86 [As xs] [] (fun r o=>o=[]/\r=.a (.c (.v (Jx xs)))):=by
 refine A6 Tryz.func86 rfl (by rw [Tryz.ntmps86];simp) ?_
 rw [Tryz.ntmps86]
 simp only [Bf,As]
 (refine Wu @A4 ?_;(repeat clear hK K);repeat refine kq fun K hK=>?_)
 refine A8 (fun k:Nat=>{ tm:=[(3,.a (.c (.s 0 (k*4)))),(10,.a (.c (.t 1 (Ab xs)))),(11,.i xs.length),(12,.i k)],hp:=[.r ⟨5,1,false,XY (Jw (xs.take k))⟩],n:=33,pin:=0 }) (fun k=>k<=xs.length) (fun k=>xs.length - k) 0 ?_ ?_ ?_
 ·omega
 ·simp only [show Int.toNat 0=0 from rfl,List.replicate_zero,List.take_zero,Jw,List.flatMap_nil,XY,List.map_nil,Nat.zero_mul]
  exact WE
 rintro k hk K hK
 have htl:(xs.take k).length=k:=by simp;omega
 by_cases hlt:k<xs.length
 ·have d1:decide ((k:Int)<(xs.length:Int))=true:=by simpa using hlt
  have hg:=Am (gE1 hlt)
  have hp:=NT (xs.take k) xs[k]
  rw [htl,<- gE8 hlt] at hp
  (refine Wu @d1 ?_;(repeat clear hK K);repeat refine kq fun K hK=>?_)
  refine WB ?_
  (refine Wu (an @hg (an @A4 (an @Jy (an @CX (an @htl @hp))))) ?_;(repeat clear hK K);repeat refine kq fun K hK=>?_)
  refine WD ?_
  refine hK _ (k+1) (by omega) (by omega) ?_
  refine Le.trans (A9 [2] rfl rfl) ?_
  (try simp only [List.set_nil,List.take_nil,List.take_zero,List.map_append,go_sem])
  (try simp only [Sn])
  have e4:k*4+4=(k+1)*4:=by omega
  (try simp only [e4])
  exact WE
 have d1:decide ((k:Int)<(xs.length:Int))=false:=by simpa using hlt
 have hke:xs.take k=xs:=gE7 (by omega)
 have hkl:k=xs.length:=by omega
 rw [hke]
 (refine Wu @d1 ?_;(repeat clear hK K);repeat refine kq fun K hK=>?_)
 refine WC ?_
 (refine Wx ?_;repeat clear hK K)
 (refine Wt ?_;(repeat clear hK K);repeat refine kq fun K hK=>?_)
 (refine Ai rfl ?_;intro K1 hK1;refine Sm (id:=0) (n:=k*4) (q:=5) (sl:=false) (cells:=XY (Jw xs)) (ns:=Jw xs) Tryz.underlying148 Tryz.underlying9 Tryz.underlying5 rfl rfl (by simp only [go_sem]) rfl (by rw [CX];omega) (by rw [hkl,gE7 (by rw [Jy,CX];exact Nat.le_refl _)];rfl) ?_;simp only [go_sem];refine hK1 _ ?_;clear hK1 K1)
 (refine Wt ?_;(repeat clear hK K);repeat refine kq fun K hK=>?_)
 ((try refine Av ?_);(try simp only [Ae,AF]);refine B6 (A9 [] rfl rfl) ?_;(try simp only [List.set_nil,List.take_nil,List.take_zero,List.map_append,go_sem]);((try refine Av ?_);(try refine Aa ?_);(try simp only [Ae,AF]);refine Bj (by first | exact .inl rfl | exact .inr rfl) rfl ?_;simp only [VU,Dy,Du,DL,Tryz.results86,go_sem,true_and,and_true,Jx]))
theorem KV {P:Program} {o:Oper} {st:ST} {K:ST->Prop} {t kt e:TypeId} {id:Nat} {kv:List (Value × C)} {x:Operand} {c:Call} (hu:P.underlying t=some (.map kt e)) (hd:VJ o st.n=true) (ho:o.op=.call c) (hc1:c.callee=.builtin .len) (hc2:c.args=#[x]) (hc3:c.argTypes=#[t]) (hx:st.ev x=.a (.c (.m id))) (hm:st.hp[id]?=some (.m kv)) (hit:Pe kv=false) (h:K (st.put o.dst (.i kv.length))):Stp P o st K:=by
 refine ER hd (fun g w ρ hr hR=>?_) h
 obtain ⟨dst,op,ty,pos,af,gd⟩:=o
 simp only at ho
 subst ho
 obtain ⟨callee,args,ts⟩:=c
 simp only at hc1 hc2 hc3
 subst hc1;subst hc2;subst hc3
 obtain ⟨es,clock,m1,m2,_⟩:=(hr.mp id kv hm).map0 hit
 have e1:=hR x
 rw [hx] at e1
 obtain ⟨_,e1⟩:=e1
 refine ⟨.int .i64 kv.length,?_,rfl⟩
 simp only [execOp,resolve,invoke,builtin,Sem.run_bind,Sem.run_pure,Result.andThen_ok,List.map_toArray,List.map_cons,List.map_nil,e1]
 simp [Builtin.len_,run_underlying hu,MapKept.run_getObj_map m1,goInt,m2]
theorem Rj (M:List (Value × Value)):Pe (M.map fun p=>(p.1,C.v p.2))=false:=by
 cases M <;> rfl
theorem LO {s:Ks} {key k:Value} {c:C}:∀ (l:List (Value × C)) (i:Nat),BJ s key (l++[(k,c)]) i=match BJ s key l i with | some none=>(match BZ s key k with | some true=>some (some (i+l.length,c)) | some false=>some none | none=>none) | r=>r:=by
 intro l
 induction l with
 | nil=>
  intro i
  simp only [List.nil_append,BJ,List.length_nil,Nat.add_zero]
  cases BZ s key k with
  | none=>rfl
  | some b=>cases b <;> rfl
 | cons p r ih=>
  intro i
  obtain ⟨k1,c1⟩:=p
  simp only [List.cons_append,BJ]
  cases BZ s key k1 with
  | none=>rfl
  | some b=>
   cases b with
   | true=>rfl
   | false=>
    simp only
    rw [ih (i+1),List.length_cons,show i+1+r.length=i+(r.length+1) from by omega]
section
variable {α : Type} [DecidableEq α]
def Tu (ky:List Value) (g:Nat->α):Prop:=∀ a b,a<ky.length->b<ky.length->BZ .ks (ky.getD a (.int .i64 0)) (ky.getD b (.int .i64 0))=some (decide (g a=g b))
def XZ (ky:List Value) (g:Nat->α):Nat->List (Value × C)
 | 0=>[]
 | k+1=>match (List.range k).find? (fun t=>decide (g t=g k)) with
  | some _=>XZ ky g k
  | none=>XZ ky g k++[(ky.getD k (.int .i64 0),.v (.int .i64 (Xh g k).2))]
theorem EH {ky:List Value} {g:Nat->α} {k t:Nat} (h:(List.range k).find? (fun t=>decide (g t=g k))=some t):XZ ky g (k+1)=XZ ky g k:=by rw [XZ,h]
theorem EI {ky:List Value} {g:Nat->α} {k:Nat} (h:(List.range k).find? (fun t=>decide (g t=g k))=none):XZ ky g (k+1)=XZ ky g k++[(ky.getD k (.int .i64 0),.v (.int .i64 (Xh g k).2))]:=by rw [XZ,h]
theorem Ug (ky:List Value) (g:Nat->α) (k:Nat):(XZ ky g k).all (fun p=>p.2.pl)=true:=by
 induction k with
 | zero=>rfl
 | succ k ih=>
  cases h:(List.range k).find? (fun t=>decide (g t=g k)) with
  | some t=>rw [EH h];exact ih
  | none=>rw [EI h,List.all_append,ih];rfl
theorem NU (ky:List Value) (g:Nat->α) (k:Nat):(XZ ky g k).length=(Xh g k).2:=by
 induction k with
 | zero=>rfl
 | succ k ih=>
  cases h:(List.range k).find? (fun t=>decide (g t=g k)) with
  | some t=>rw [EH h,Do h];exact ih
  | none=>rw [EI h,Dp h,List.length_append,ih];rfl
theorem Hw (ky:List Value) (g:Nat->α) (k:Nat):∃ M:List (Value × Value),XZ ky g k=M.map fun p=>(p.1,C.v p.2):=by
 induction k with
 | zero=>exact ⟨[],rfl⟩
 | succ k ih=>
  obtain ⟨M,hM⟩:=ih
  cases h:(List.range k).find? (fun t=>decide (g t=g k)) with
  | some t=>exact ⟨M,by rw [EH h,hM]⟩
  | none=>exact ⟨M++[(ky.getD k (.int .i64 0),.int .i64 (Xh g k).2)],by rw [EI h,hM];simp⟩
theorem Qc {ky:List Value} {g:Nat->α} (h:Tu ky g) {s:Nat} (hs:s<ky.length):∀ k,k<=ky.length->(∃ t,t<k/\g t=g s/\∃ j,BJ .ks (ky.getD s (.int .i64 0)) (XZ ky g k) 0=some (some (j,.v (.int .i64 ((Xh g k).1.getD t 0)))))\/((∀ t,t<k->g t ≠ g s)/\BJ .ks (ky.getD s (.int .i64 0)) (XZ ky g k) 0=some none):=by
 intro k
 induction k with
 | zero=>intro _;exact .inr ⟨fun t ht=>by omega,rfl⟩
 | succ k ih=>
  intro hk
  have hkl:k<ky.length:=hk
  have hlen:=(Cx g k).len
  cases hf:(List.range k).find? (fun t=>decide (g t=g k)) with
  | some t0=>
   have h2:=List.find?_range_eq_some.1 hf
   have h3:t0<k:=by simpa using h2.2.1
   have h4:g t0=g k:=by simpa using h2.1
   rw [EH hf,Do hf]
   rcases ih (by omega) with ⟨t,a1,a2,j,a3⟩ | ⟨a1,a2⟩
   ·refine .inl ⟨t,by omega,a2,j,?_⟩
    rw [a3,CW (by omega)]
   refine .inr ⟨fun t ht=>?_,a2⟩
   rcases Nat.lt_or_ge t k with b | b
   ·exact a1 t b
   have:t=k:=by omega
   subst this
   rw [<- h4];exact a1 t0 h3
  | none=>
   rw [EI hf,Dp hf,LO,h s k hs hkl]
   rcases ih (by omega) with ⟨t,a1,a2,j,a3⟩ | ⟨a1,a2⟩
   ·refine .inl ⟨t,by omega,a2,j,?_⟩
    rw [a3,CW (by omega)]
   rw [a2]
   by_cases e:g s=g k
   ·refine .inl ⟨k,by omega,e.symm,0+(XZ ky g k).length,?_⟩
    rw [gEg e,DF hlen.symm]
   refine .inr ⟨fun t ht=>?_,by rw [decide_eq_false e]⟩
   rcases Nat.lt_or_ge t k with b | b
   ·exact a1 t b
   have:t=k:=by omega
   subst this
   exact Ne.symm e
theorem So {ky:List Value} {g:Nat->α} (h:Tu ky g) {s:Nat} (hs:s<ky.length):Fj .ks (ky.getD s (.int .i64 0))=true:=by
 unfold Fj
 rw [h s s hs hs]
def ZG (ky:List Value):List C:=ky.map C.v
theorem Gt (ky:List Value):(ZG ky).length=ky.length:=by simp [ZG]
theorem Sp {ky:List Value} {s:Nat} (h:s<ky.length):(ZG ky)[s]?=some (.v (ky.getD s (.int .i64 0))):=by simp [ZG,gE2,h]
theorem Fd (ky:List Value) (f:List Nat):(ZG ky).map (C.ren f)=ZG ky:=by simp [ZG,C.ren,Function.comp_def]
theorem Jz (ky:List Value) (s:Nat) (v:Value):(ZG ky).set s (.v v)=ZG (ky.set s v):=by simp [ZG,List.map_set]
end
def UX (L:List Int):Prop:=∀ x∈L,0<=x/\x<2147483648
theorem Sq {x y:List Int} (hx:UX x) (hy:UX y):BZ .ks (Jx x) (Jx y)=some (decide (x=y)):=by
 show some _=some _
 congr 1
 rw [Bool.eq_iff_iff,decide_eq_true_iff,MapKept.bytes_beq]
 exact ⟨fun h=>Qb hx hy (by unfold Jx;rw [h]),fun h=>by rw [h]⟩
def Y3 (kd ke:Value) (B:List Bool) (n k:Nat):List Value:=(List.range n).map fun s=>if s<k/\B.getD s false=true then kd else ke
theorem Hx (kd ke:Value) (B:List Bool) (n k:Nat):(Y3 kd ke B n k).length=n:=by simp [Y3]
theorem Qd (kd ke:Value) (B:List Bool) (n:Nat):Y3 kd ke B n 0=List.replicate n ke:=by
 refine List.ext_getElem (by simp [Y3]) fun i h1 h2=>?_
 simp [Y3]
theorem Qe {kd ke:Value} {B:List Bool} {n k:Nat} (h:B.getD k false=true):(Y3 kd ke B n k).set k kd=Y3 kd ke B n (k+1):=by
 refine List.ext_getElem (by simp [Y3]) fun i h1 h2=>?_
 rw [List.getElem_set]
 simp only [Y3,List.getElem_map,List.getElem_range]
 by_cases e:k=i
 ·subst e;rw [if_pos rfl,if_pos ⟨by omega,h⟩]
 rw [if_neg e]
 by_cases hb:B.getD i false=true
 rotate_left
 ·rw [if_neg (fun h=>hb h.2),if_neg (fun h=>hb h.2)]
 by_cases hk:i<k
 ·rw [if_pos ⟨hk,hb⟩,if_pos ⟨by omega,hb⟩]
 rw [if_neg (fun h=>hk h.1),if_neg (fun h=>by have:=h.1;omega)]
theorem NV {kd ke:Value} {B:List Bool} {n k:Nat} (h:B.getD k false=false):Y3 kd ke B n (k+1)=Y3 kd ke B n k:=by
 refine List.map_congr_left fun i _=>?_
 by_cases hb:B.getD i false=true
 rotate_left
 ·rw [if_neg (fun h=>hb h.2),if_neg (fun h=>hb h.2)]
 by_cases e:i=k
 ·subst e;rw [h] at hb;cases hb
 by_cases hk:i<k
 ·rw [if_pos ⟨by omega,hb⟩,if_pos ⟨hk,hb⟩]
 rw [if_neg (fun h=>by have:=h.1;omega),if_neg (fun h=>hk h.1)]
theorem Uh {kd ke:Value} (h1:BZ .ks kd kd=some true) (h2:BZ .ks ke ke=some true) (h3:BZ .ks kd ke=some false) (h4:BZ .ks ke kd=some false) (B:List Bool) (n:Nat):Tu (Y3 kd ke B n n) (fun s=>B.getD s false):=by
 intro a b ha hb
 rw [Hx] at ha hb
 have g:∀ s,s<n->(Y3 kd ke B n n).getD s (.int .i64 0)=if B.getD s false=true then kd else ke:=fun s hs=>by
  rw [gE2,gE1 (by rw [Hx];exact hs),Option.getD_some]
  simp only [Y3,List.getElem_map,List.getElem_range,hs,true_and]
 rw [g a ha,g b hb]
 show _=some (decide (B.getD a false=B.getD b false))
 cases B.getD a false <;> cases B.getD b false <;> simp [h1,h2,h3,h4]
def AQ (w:Nat):List Int:=((List.range 64).filter fun i=>w.testBit i).map Int.ofNat
def WS (w:Nat) (p:Nat->Prop):Prop:=w<2 ^ 64/\∀ i,i<64->(w.testBit i=true↔p i)
theorem WS.lt {w:Nat} {p:Nat->Prop} (h:WS w p):w<18446744073709551616:=h.1
theorem Ui {w i:Nat} (h:w<2 ^ 64) (hi:64<=i):w.testBit i=false:=Nat.testBit_lt_two_pow (Nat.lt_of_lt_of_le h (Nat.pow_le_pow_right (by decide) hi))
theorem Rk {v w:Nat} (hv:v<2 ^ 64) (hw:w<2 ^ 64) (h:∀ i,i<64->v.testBit i=w.testBit i):v=w:=by
 refine Nat.eq_of_testBit_eq fun i=>?_
 rcases Nat.lt_or_ge i 64 with hi | hi
 ·exact h i hi
 rw [Ui hv hi,Ui hw hi]
theorem WS.uniq {v w:Nat} {p q:Nat->Prop} (hv:WS v p) (hw:WS w q) (h:∀ i,i<64->(p i↔q i)):v=w:=by
 refine Rk hv.1 hw.1 fun i hi=>?_
 rw [Bool.eq_iff_iff,hv.2 i hi,hw.2 i hi,h i hi]
theorem LP:AQ 0=[]:=by
 unfold AQ
 rw [List.filter_eq_nil_iff.2 (fun i _=>by simp)]
 rfl
theorem CP (w:Nat):(AQ w).length<=64:=by
 unfold AQ
 rw [List.length_map]
 exact Nat.le_trans (List.length_filter_le _ _) (by simp)
theorem Db {w:Nat} {x:Int}:x∈AQ w↔∃ i,i<64/\w.testBit i=true/\x=(i:Int):=by
 unfold AQ
 simp only [List.mem_map,List.mem_filter,List.mem_range]
 constructor
 ·rintro ⟨i,⟨h1,h2⟩,rfl⟩;exact ⟨i,h1,h2,rfl⟩
 rintro ⟨i,h1,h2,rfl⟩;exact ⟨i,⟨h1,h2⟩,rfl⟩
theorem KW {w:Nat}:∀ x∈AQ w,0<=x/\x<64:=fun x hx=>by
 obtain ⟨i,h1,_,rfl⟩:=Db.1 hx
 omega
theorem IE {v w:Nat} (hv:v<2 ^ 64) (hw:w<2 ^ 64) (h:AQ v=AQ w):v=w:=by
 refine Rk hv hw fun i hi=>?_
 have key:((i:Int)∈AQ v)↔((i:Int)∈AQ w):=by rw [h]
 rw [Db,Db] at key
 have e:∀ u:Nat,(∃ j,j<64/\u.testBit j=true/\(i:Int)=(j:Int))↔u.testBit i=true:=fun u=>by
  constructor
  rotate_left
  ·intro h2;exact ⟨i,hi,h2,rfl⟩
  rintro ⟨j,_,h2,h3⟩
  have:i=j:=by omega
  rw [this];exact h2
 rw [e,e] at key
 rw [Bool.eq_iff_iff];exact key
theorem IF (w:Nat):WI (AQ w):=by
 unfold AQ WI
 rw [List.pairwise_map]
 refine List.Pairwise.filter _ ?_
 refine List.pairwise_lt_range.imp fun {a b} h=>?_
 simp only [Int.ofNat_eq_natCast];omega
theorem KX (k m i:Nat):(2 ^ k*(2*m+1)).testBit i=if i<k then false else if i=k then true else (2*m).testBit (i - k):=by
 rw [Nat.testBit_two_pow_mul]
 by_cases h:i<k
 ·rw [if_pos h];simp [show ¬ k<=i by omega]
 rw [if_neg h]
 by_cases e:i=k
 ·subst e;rw [if_pos rfl];simp [Nat.testBit_zero]
 rw [if_neg e]
 obtain ⟨d,hd⟩:∃ d,i - k=d+1:=⟨i - k - 1,by omega⟩
 rw [hd,Nat.testBit_succ,Nat.testBit_succ]
 simp [show k<=i by omega,show (2*m+1) / 2=m by omega]
theorem Hy (k m i:Nat):(2 ^ k*(2*m)).testBit i=if i<k then false else if i=k then false else (2*m).testBit (i - k):=by
 rw [Nat.testBit_two_pow_mul]
 by_cases h:i<k
 ·rw [if_pos h];simp [show ¬ k<=i by omega]
 rw [if_neg h]
 by_cases e:i=k
 ·subst e;rw [if_pos rfl];simp [Nat.testBit_zero]
 rw [if_neg e];simp [show k<=i by omega]
theorem Qf (k m:Nat):(2 ^ k*(2*m+1)) &&& (2 ^ k*(2*m+1) - 1)=2 ^ k*(2*m):=by
 have hp:0<2 ^ k:=Nat.two_pow_pos k
 have e1:2 ^ k*(2*m+1) - 1=2 ^ k*(2*m)+(2 ^ k - 1):=by
  rw [Nat.mul_add,Nat.mul_one];omega
 refine Nat.eq_of_testBit_eq fun i=>?_
 rw [Nat.testBit_and,KX,e1,Nat.testBit_two_pow_mul_add _ (by omega),Hy]
 by_cases h:i<k
 ·rw [if_pos h,if_pos h,if_pos h];rfl
 rw [if_neg h,if_neg h,if_neg h]
 by_cases e:i=k
 ·subst e;rw [if_pos rfl,if_pos rfl];simp [Nat.testBit_zero]
 rw [if_neg e,if_neg e];simp
theorem NW {w:Nat} (h0:0<w) (h:w<2 ^ 64):Lib.ctz 64 w<64/\(w &&& (w - 1))<w/\AQ w=(Lib.ctz 64 w:Int) :: AQ (w &&& (w - 1)):=by
 obtain ⟨m,hm,hk⟩:=Lib.ctzFrom_spec 64 w h0 h
 have hc:Lib.ctz 64 w=Lib.ctzFrom 64 w:=by unfold Lib.ctz;rw [if_neg (by omega)]
 rw [hc]
 generalize Lib.ctzFrom 64 w=k at *
 have ha:(w &&& (w - 1))=2 ^ k*(2*m):=by rw [hm];exact Qf k m
 have hp:0<2 ^ k:=Nat.two_pow_pos k
 have hlt:2 ^ k*(2*m)<w:=by rw [hm,Nat.mul_add];omega
 refine ⟨hk,by rw [ha];exact hlt,?_⟩
 rw [ha]
 refine Jc (IF _) ?_ fun x=>?_
 ·unfold WI
  refine List.pairwise_cons.2 ⟨fun x hx=>?_,IF _⟩
  obtain ⟨i,h1,h2,rfl⟩:=Db.1 hx
  rw [Hy] at h2
  by_cases h:i<k
  ·rw [if_pos h] at h2;cases h2
  rw [if_neg h] at h2
  by_cases e:i=k
  ·rw [if_pos e] at h2;cases h2
  omega
 rw [List.mem_cons,Db,Db]
 constructor
 ·rintro ⟨i,h1,h2,rfl⟩
  rw [hm,KX] at h2
  by_cases h:i<k
  ·rw [if_pos h] at h2;cases h2
  rw [if_neg h] at h2
  by_cases e:i=k
  ·exact .inl (by rw [e])
  rw [if_neg e] at h2
  exact .inr ⟨i,h1,by rw [Hy,if_neg h,if_neg e];exact h2,rfl⟩
 rintro (rfl | ⟨i,h1,h2,rfl⟩)
 ·exact ⟨k,hk,by rw [hm,KX,if_neg (by omega),if_pos rfl],rfl⟩
 rw [Hy] at h2
 by_cases h:i<k
 ·rw [if_pos h] at h2;cases h2
 rw [if_neg h] at h2
 by_cases e:i=k
 ·rw [if_pos e] at h2;cases h2
 rw [if_neg e] at h2
 exact ⟨i,h1,by rw [hm,KX,if_neg h,if_neg e];exact h2,rfl⟩
theorem Uj {v w:Nat} (hv:v<2 ^ 64) (hw:w<2 ^ 64):(v ||| w)<2 ^ 64:=Nat.or_lt_two_pow hv hw
theorem Sr {v w i:Nat}:(v ||| w).testBit i=true↔v.testBit i=true\/w.testBit i=true:=by rw [Nat.testBit_or];simp
theorem Uk {k i:Nat}:(2 ^ k).testBit i=true↔k=i:=by rw [Nat.testBit_two_pow];simp
theorem KY {k:Nat} (h:k<64):2 ^ k<2 ^ 64:=Nat.pow_lt_pow_right (by decide) h
def FM (x:Int) (t:Nat) (V:List (Int × Nat)):List Int:=x :: ((AQ t).length:Int) :: (AQ t++V.flatMap fun p=>p.1 :: ((AQ p.2).length:Int) :: AQ p.2)
theorem NX {α:Type} {a b c d:List α} (h:a++b=c++d) (hl:a.length=c.length):a=c/\b=d:=List.append_inj h hl
theorem KZ:∀ {V W:List (Int × Nat)},(∀ p∈V,p.2<2 ^ 64)->(∀ p∈W,p.2<2 ^ 64)->(V.flatMap fun p=>p.1 :: ((AQ p.2).length:Int) :: AQ p.2)=(W.flatMap fun p=>p.1 :: ((AQ p.2).length:Int) :: AQ p.2)->V=W
 | [],[],_,_,_=>rfl
 | [],q :: W,_,_,h=>by simp at h
 | p :: V,[],_,_,h=>by simp at h
 | p :: V,q :: W,hv,hw,h=>by
  simp only [List.flatMap_cons,List.cons_append,List.cons.injEq] at h
  obtain ⟨h1,h2,h3⟩:=h
  obtain ⟨h4,h5⟩:=NX h3 (by omega)
  have h6:=IE (hv p List.mem_cons_self) (hw q List.mem_cons_self) h4
  have h7:=KZ (fun p hp=>hv p (gEf _ hp)) (fun p hp=>hw p (gEf _ hp)) h5
  rw [h7]
  congr 1
  exact Prod.ext h1 h6
theorem Qg {x y:Int} {s t:Nat} {V W:List (Int × Nat)} (hs:s<2 ^ 64) (ht:t<2 ^ 64) (hV:∀ p∈V,p.2<2 ^ 64) (hW:∀ p∈W,p.2<2 ^ 64) (h:FM x s V=FM y t W):x=y/\s=t/\V=W:=by
 unfold FM at h
 simp only [List.cons.injEq] at h
 obtain ⟨h1,h2,h3⟩:=h
 obtain ⟨h4,h5⟩:=NX h3 (by omega)
 exact ⟨h1,IE hs ht h4,KZ hV hW h5⟩
def RT (X:List (List Ar)) (cl:List Int) (c i:Nat):Prop:=∃ u,u<X.length/\Rc (WP true X) c u/\cl.getD u 0=(i:Int)
def RV (X:List (List Ar)) (cl:List Int) (c:Nat) (e:Int) (i:Nat):Prop:=e ≠ 0/\∃ u,u<X.length/\Rc (WP true X) c u/\∃ a∈X.getD u [],a.1=e/\RT X cl a.2.toNat i
theorem Ss {n:Nat} {B:List Bool} {x:Int}:x∈rL n B↔∃ i,i<n/\Bu B i=true/\x=(i:Int):=by
 unfold rL
 simp only [List.mem_map,List.mem_filter,List.mem_range]
 constructor
 ·rintro ⟨i,⟨h1,h2⟩,rfl⟩;exact ⟨i,h1,h2,rfl⟩
 rintro ⟨i,h1,h2,rfl⟩;exact ⟨i,⟨h1,h2⟩,rfl⟩
theorem NY {R:List (List Ar)} {s:Nat} {e x:Int}:x∈XI R s e↔∃ u,u<R.length/\WA R s e u/\x=(u:Int):=by
 obtain ⟨B,_,h2,h3⟩:=Rh R s e
 rw [h2,Ss]
 constructor
 ·rintro ⟨i,h4,h5,h6⟩;exact ⟨i,h4,(h3 i h4).1 h5,h6⟩
 rintro ⟨i,h4,h5,h6⟩;exact ⟨i,h4,(h3 i h4).2 h5,h6⟩
theorem EJ {X:List (List Ar)} (hv:Bv X=true) {u:Nat} (hu:u<X.length) {a:Ar} (ha:a∈X.getD u []):0<=a.1/\a.1<=1025/\0<=a.2/\a.2.toNat<X.length:=by
 have hlo:BE X=true:=gEg (gE4 hv).1
 rw [gE2,gE1 hu,Option.getD_some] at ha
 have:=(gE4 hlo).2.2.2 _ (gE6 hu) a ha
 exact ⟨this.1,by omega,this.2.2.1,by omega⟩
theorem EK {X:List (List Ar)} (hv:Bv X=true) {s:Nat} (hs:s<X.length) {a:Ar}:a∈(C9 X).getD s []↔∃ u,u<X.length/\WA X s a.1 u/\a.2=(u:Int):=by
 have hlo:BE X=true:=gEg (gE4 hv).1
 have hE:=Cw true hlo
 have hg:(C9 X).getD s []=XL X (Xn X X.length) s:=by simp [C9,XM,gE2,hs]
 have hev:=Iz (R:=X) (fun r hr a ha=>by have:=(gE4 hlo).2.2.2 r hr a ha;omega) X.length (Nat.le_refl _)
 rw [List.take_length] at hev
 rw [hg]
 unfold XL XK
 rw [List.take_length,List.mem_flatMap]
 constructor
 ·rintro ⟨e,he,h⟩
  obtain ⟨x,hx,rfl⟩:=List.mem_map.1 h
  exact NY.1 hx
 rintro ⟨u,hu,h1,h2⟩
 have hmem:a.1∈Xn X X.length:=by
  rcases h1 with ⟨h,_⟩ | ⟨_,t,ht,b,hb,h4,_⟩
  ·rw [h];exact hev.2.2.1
  have htl:=ht.lt hs hE
  rw [gE2,gE1 htl,Option.getD_some] at hb
  rw [<- h4]
  exact hev.2.2.2 _ (gE6 htl) b hb
 exact ⟨a.1,hmem,List.mem_map.2 ⟨a.2,NY.2 ⟨u,hu,h1,h2⟩,rfl⟩⟩
theorem Fe {X:List (List Ar)} (hv:Bv X=true) {cl:List Int} {s:Nat} (hs:s<X.length) (i:Nat):((0:Int),(i:Int))∈Xi (C9 X) cl s↔RT X cl s i:=by
 rw [DG]
 constructor
 rotate_left
 ·rintro ⟨u,hu,h1,h2⟩
  exact ⟨(0,(u:Int)),(EK hv hs).2 ⟨u,hu,.inl ⟨rfl,h1⟩,rfl⟩,by show (_,_)=(_,cl.getD ((u:Int)).toNat 0);rw [Int.toNat_natCast,h2]⟩
 rintro ⟨a,ha,e⟩
 obtain ⟨u,hu,h1,h2⟩:=(EK hv hs).1 ha
 simp only [Prod.mk.injEq] at e
 obtain ⟨e1,e2⟩:=e
 rcases h1 with ⟨_,h1⟩ | ⟨h1,_⟩
 rotate_left
 ·exact absurd e1.symm h1
 refine ⟨u,hu,h1,?_⟩
 rw [e2,h2];simp
theorem Ff {X:List (List Ar)} (hv:Bv X=true) {cl:List Int} {s:Nat} (hs:s<X.length) {e:Int} (he:e ≠ 0) (i:Nat):(e,(i:Int))∈Xi (C9 X) cl s↔RV X cl s e i:=by
 have hlo:BE X=true:=gEg (gE4 hv).1
 have hE:=Cw true hlo
 rw [DG]
 constructor
 rotate_left
 ·rintro ⟨_,t,htl,ht,b,hb,h3,u,hu,h4,h5⟩
  exact ⟨(e,(u:Int)),(EK hv hs).2 ⟨u,hu,.inr ⟨he,t,ht,b,hb,h3,h4⟩,rfl⟩,by show (_,_)=(_,cl.getD ((u:Int)).toNat 0);rw [Int.toNat_natCast,h5]⟩
 rintro ⟨a,ha,e0⟩
 obtain ⟨u,hu,h1,h2⟩:=(EK hv hs).1 ha
 simp only [Prod.mk.injEq] at e0
 obtain ⟨e1,e2⟩:=e0
 rcases h1 with ⟨h1,_⟩ | ⟨h1,t,ht,b,hb,h3,h4⟩
 ·exact absurd (e1.trans h1) he
 exact ⟨he,t,ht.lt hs hE,ht,b,hb,h3.trans e1.symm,u,hu,h4,by rw [e2,h2];simp⟩
theorem NZ {X:List (List Ar)} (hv:Bv X=true) {cl:List Int} (hc:Nrm X.length cl) {s:Nat} (hs:s<X.length) {x:Ar} (hx:x∈Xi (C9 X) cl s):∃ i:Nat,i<X.length/\x.2=(i:Int):=by
 obtain ⟨a,ha,rfl⟩:=DG.1 hx
 obtain ⟨u,hu,_,h2⟩:=(EK hv hs).1 ha
 have hcl:=hc.len
 have hm:cl.getD u 0∈cl:=by rw [gE2,gE1 (by omega)];exact gE6 _
 have:=hc.rng _ hm
 simp only [h2,Int.toNat_natCast]
 exact ⟨(cl.getD u 0).toNat,by omega,by omega⟩
structure KeyOf (X:List (List Ar)) (cl:List Int) (s:Nat) (L:List Int):Prop where
 ex:∃ (t:Nat) (V:List (Int × Nat)),L=FM (cl.getD s 0) t V/\WS t (RT X cl s)/\WI (V.map (·.1))/\(∀ p∈V,(0<=p.1/\p.1<=1025)/\WS p.2 (RV X cl s p.1)/\∃ i,RV X cl s p.1 i)/\∀ e i,RV X cl s e i->e∈V.map (·.1)
theorem UY {X:List (List Ar)} (_hv:Bv X=true) {cl:List Int} (hc:Nrm X.length cl) {s:Nat} {e:Int} {i:Nat} (h:RV X cl s e i):i<X.length:=by
 obtain ⟨_,_,_,_,_,_,_,u,hu,_,h2⟩:=h
 have hcl:=hc.len
 have hm:cl.getD u 0∈cl:=by rw [gE2,gE1 (by omega)];exact gE6 _
 have:=hc.rng _ hm
 omega
theorem KeyOf.iff {X:List (List Ar)} (hv:Bv X=true) (hn:X.length<=64) {cl:List Int} (hc:Nrm X.length cl) {s t:Nat} (hs:s<X.length) (ht:t<X.length) {L M:List Int} (h1:KeyOf X cl s L) (h2:KeyOf X cl t M):L=M↔Xj (C9 X) cl s=Xj (C9 X) cl t:=by
 obtain ⟨τ,V,rfl,a1,a2,a3,a4⟩:=h1.ex
 obtain ⟨σ,W,rfl,b1,b2,b3,b4⟩:=h2.ex
 unfold Xj
 constructor
 rotate_left
 ·intro h
  simp only [Prod.mk.injEq] at h
  obtain ⟨c1,c2⟩:=h
  have et:∀ i,RT X cl s i↔RT X cl t i:=fun i=>by rw [<- Fe hv hs,<- Fe hv ht,c2]
  have ev:∀ e i,RV X cl s e i↔RV X cl t e i:=fun e i=>by
   by_cases he:e=0
   rotate_left
   ·rw [<- Ff hv hs he,<- Ff hv ht he,c2]
   constructor
   ·rintro ⟨h,_⟩;exact absurd he h
   rintro ⟨h,_⟩;exact absurd he h
  have e1:τ=σ:=a1.uniq b1 fun i _=>et i
  have e2:V.map (·.1)=W.map (·.1):=by
   refine Jc a2 b2 fun e=>?_
   constructor
   ·intro he
    obtain ⟨p,hp,rfl⟩:=List.mem_map.1 he
    obtain ⟨i,hi⟩:=(a3 p hp).2.2
    exact b4 _ i ((ev _ i).1 hi)
   intro he
   obtain ⟨p,hp,rfl⟩:=List.mem_map.1 he
   obtain ⟨i,hi⟩:=(b3 p hp).2.2
   exact a4 _ i ((ev _ i).2 hi)
  have e3:V=W:=by
   have hl:V.length=W.length:=by have:=congrArg List.length e2;simpa using this
   refine List.ext_getElem hl fun j h1 h2=>?_
   have hj:V[j].1=W[j].1:=by
    have h3:(V.map (·.1))[j]?=(W.map (·.1))[j]?:=by rw [e2]
    simpa [h1,h2] using h3
   refine Prod.ext hj ((a3 _ (gE6 h1)).2.1.uniq (b3 _ (gE6 h2)).2.1 fun i _=>?_)
   rw [hj];exact ev _ i
  rw [c1,e1,e3]
 intro h
 obtain ⟨c1,c2,c3⟩:=Qg a1.1 b1.1 (fun p hp=>(a3 p hp).2.1.1) (fun p hp=>(b3 p hp).2.1.1) h
 subst c2;subst c3
 refine Prod.ext c1 ?_
 refine Cg (B9 _) (B9 _) fun x=>?_
 show x∈Xi (C9 X) cl s↔x∈Xi (C9 X) cl t
 have key:∀ u,u<X.length->u=s\/u=t->(x∈Xi (C9 X) cl u↔∃ i:Nat,i<64/\x.2=(i:Int)/\((x.1=0/\τ.testBit i=true)\/(x.1 ≠ 0/\∃ w,(x.1,w)∈V/\w.testBit i=true))):=by
  intro u hu hst
  have wt:WS τ (RT X cl u):=by rcases hst with rfl | rfl <;> assumption
  have wv:∀ p∈V,WS p.2 (RV X cl u p.1):=fun p hp=>by
   rcases hst with rfl | rfl
   ·exact (a3 p hp).2.1
   exact (b3 p hp).2.1
  have wc:∀ e i,RV X cl u e i->e∈V.map (·.1):=by rcases hst with rfl | rfl <;> assumption
  obtain ⟨e,y⟩:=x
  constructor
  rotate_left
  ·rintro ⟨i,hi,hy,h⟩
   simp only at hy h
   subst hy
   rcases h with ⟨rfl,h⟩ | ⟨he,w,hw,h⟩
   ·exact (Fe hv hu i).2 ((wt.2 i hi).1 h)
   exact (Ff hv hu he i).2 (((wv _ hw).2 i hi).1 h)
  intro hx
  obtain ⟨i,hi,hy⟩:=NZ hv hc hu hx
  simp only at hy ⊢
  subst hy
  refine ⟨i,by omega,rfl,?_⟩
  by_cases he:e=0
  ·subst he
   exact .inl ⟨rfl,(wt.2 i (by omega)).2 ((Fe hv hu i).1 hx)⟩
  have hr:=(Ff hv hu he i).1 hx
  obtain ⟨p,hp,e1⟩:=List.mem_map.1 (wc e i hr)
  refine .inr ⟨he,p.2,?_,((wv p hp).2 i (by omega)).2 (by rw [e1];exact hr)⟩
  rw [<- e1];exact hp
 rw [key s hs (.inl rfl),key t ht (.inr rfl)]
def WkC (R:List (List Ar)) (c:List Int):Prop:=∃ B,DvL R B/\FxS (C9 R) (Xv B R.length) c
def MtW {α:Type} (A:List (List Ar)) (kA:Nat->α) (B:List (List Ar)) (kB:Nat->α):Prop:=
 ∀ s t,s<A.length->t<B.length->kA s=kB t->(Dv A s->Dv B t)/\∀ a∈(C9 A).getD s [],∃ b∈(C9 B).getD t [],b.1=a.1/\kB b.2.toNat=kA a.2.toNat
theorem YN {R:List (List Ar)} (hv:Bv R=true) (hn:R.length<=100) {s:Nat} (hs:s<R.length) {a:Ar} (h:a∈(C9 R).getD s []):0<=a.2/\a.2.toNat<R.length:=by
 have hb:=Ht hv hn
 have hm:(C9 R).getD s []∈C9 R:=by
  rw [gE2,gE1 (by omega),Option.getD_some]
  exact gE6 _
 have:=(hb.2 _ hm).2 a h
 omega
theorem YY {α:Type} {R:List (List Ar)} {k:Nat->α} (hv:Bv R=true) (hn:R.length<=100) (hk:MtW R k R k) {c:List Int} (ih:∀ s t,s<R.length->t<R.length->k s=k t->c.getD s 0=c.getD t 0) {s t:Nat} (hs:s<R.length) (ht:t<R.length) (h:k s=k t):Iy c ((C9 R).getD s []) ((C9 R).getD t [])=true:=by
 unfold Iy
 refine List.all_eq_true.2 fun a ha=>?_
 obtain ⟨b,hb,e1,e2⟩:=(hk s t hs ht h).2 a ha
 unfold LN
 refine List.any_eq_true.2 ⟨b,hb,?_⟩
 rw [e1,ih _ _ (YN hv hn ht hb).2 (YN hv hn hs ha).2 e2]
 simp
theorem MtW.le {α:Type} {R:List (List Ar)} {k:Nat->α} (hv:Bv R=true) (hn:R.length<=100) (hk:MtW R k R k) {c:List Int} (hc:WkC R c) {s t:Nat} (hs:s<R.length) (ht:t<R.length) (h:k s=k t):c.getD s 0=c.getD t 0:=by
 obtain ⟨B,hB,i,hi,-⟩:=hc
 have hb:=Ht hv hn
 subst hi
 induction i generalizing s t with
 | zero=>
  show (Xv B R.length).getD s 0=(Xv B R.length).getD t 0
  rw [Jq hs,Jq ht]
  have e:B.getD s false=B.getD t false:=by
   rw [Bool.eq_iff_iff,hB.2 s hs,hB.2 t ht]
   exact ⟨(hk s t hs ht h).1,(hk t s ht hs h.symm).1⟩
  unfold Xu
  rw [e]
 | succ i ih=>
  have ih2:=fun s t hs ht h=>ih (s:=s) (t:=t) hs ht h
  have e:=(Cx (Xj (C9 R) (Xl (C9 R) (Xv B R.length) i)) (C9 R).length).eq s t (by omega) (by omega)
  refine e.2 ?_
  unfold Xj
  rw [ih hs ht h,Se.2 ⟨YY hv hn hk ih2 hs ht h,YY hv hn hk ih2 ht hs h.symm⟩]
theorem WkC.key {R:List (List Ar)} (hv:Bv R=true) (hn:R.length<=100) {c:List Int} (hc:WkC R c):MtW R (fun s=>c.getD s 0) R (fun s=>c.getD s 0):=by
 obtain ⟨B,hB,i,hi,hf⟩:=hc
 have hb:=Ht hv hn
 intro s t hs ht h
 simp only at h ⊢
 have e:=(Cx (Xj (C9 R) c) (C9 R).length).eq s t (by omega) (by omega)
 have e0:(Xh (Xj (C9 R) c) (C9 R).length).1=c:=hf
 rw [e0] at e
 have e2:=congrArg Prod.snd (e.1 h)
 obtain ⟨c1,-⟩:=Se.1 e2
 refine ⟨fun hd=>?_,fun a ha=>?_⟩
 rotate_left
 ·obtain ⟨b,hb2,hq⟩:=List.any_eq_true.1 (List.all_eq_true.1 c1 a ha)
  simp only [Bool.and_eq_true,beq_iff_eq] at hq
  exact ⟨b,hb2,hq.1,hq.2⟩
 have hdv:∀ j,(Xl (C9 R) (Xv B R.length) j).getD s 0=(Xl (C9 R) (Xv B R.length) j).getD t 0->(Xv B R.length).getD s 0=(Xv B R.length).getD t 0:=by
  intro j
  induction j with
  | zero=>exact id
  | succ j ih=>intro q;exact ih (congrArg Prod.fst (((Cx (Xj (C9 R) (Xl (C9 R) (Xv B R.length) j)) (C9 R).length).eq s t (by omega) (by omega)).1 q))
 have q:=hdv i (by rw [<- hi];exact h)
 rw [Jq hs,Jq ht] at q
 refine (hB.2 t ht).1 ?_
 have h2:=(hB.2 s hs).2 hd
 unfold Xu at q
 rw [h2] at q
 generalize B.getD 0 false=x0 at q
 generalize B.getD t false=x1 at q ⊢
 revert q
 cases x0 <;> cases x1 <;> decide
/-! Side by side. -/
def VwW {α:Type} (Z:List (List Ar)) (k:Nat->α) (s:Nat) (X:List (List Ar)) (kX:Nat->α) (s':Nat):Prop:=
 s'<X.length/\k s=kX s'/\(Dv Z s↔Dv X s')/\(∀ a∈(C9 Z).getD s [],∃ b∈(C9 X).getD s' [],b.1=a.1/\kX b.2.toNat=k a.2.toNat)/\∀ b∈(C9 X).getD s' [],∃ a∈(C9 Z).getD s [],a.1=b.1/\k a.2.toNat=kX b.2.toNat
theorem VwW.mt {α:Type} {Z X Y:List (List Ar)} {k kX kY:Nat->α} {s t s' t':Nat} (h1:VwW Z k s X kX s') (h2:VwW Z k t Y kY t') (hm:MtW X kX Y kY) (h:k s=k t):(Dv Z s->Dv Z t)/\∀ a∈(C9 Z).getD s [],∃ b∈(C9 Z).getD t [],b.1=a.1/\k b.2.toNat=k a.2.toNat:=by
 obtain ⟨a1,a2,a3,a4,a5⟩:=h1
 obtain ⟨b1,b2,b3,b4,b5⟩:=h2
 obtain ⟨m1,m2⟩:=hm s' t' a1 b1 (by rw [<- a2,<- b2,h])
 refine ⟨fun d=>b3.2 (m1 (a3.1 d)),fun a ha=>?_⟩
 obtain ⟨x,hx,e1,e2⟩:=a4 a ha
 obtain ⟨y,hy,e3,e4⟩:=m2 x hx
 obtain ⟨z,hz,e5,e6⟩:=b5 y hy
 exact ⟨z,hz,by rw [e5,e3,e1],by rw [e6,e4,e2]⟩
theorem Zp {A R:List (List Ar)} (hA:Bv A=true) {s u:Nat} {e:Int} (hs:s<A.length):WA (Eo A R) s e u↔WA A s e u:=by
 have hE:=Cw true (gEg (gE4 hA).1:BE A=true)
 unfold WA
 refine or_congr (and_congr_right fun _=>IA hE hs) (and_congr_right fun _=>exists_congr fun t=>?_)
 rw [IA hE hs]
 refine and_congr_right fun hr=>?_
 have htl:=hr.lt hs hE
 rw [U6 htl]
 exact exists_congr fun a=>and_congr_right fun ha=>and_congr_right fun _=>IA hE (EJ hA htl ha).2.2.2
theorem Zq {A R:List (List Ar)} (hR:Bv R=true) {s u:Nat} {e:Int} (hs:s<R.length):WA (Eo A R) (A.length+s) e u↔∃ v,u=A.length+v/\WA R s e v:=by
 have hlo:BE R=true:=gEg (gE4 hR).1
 have hE:=Cw true hlo
 have hsh:∀ {t:Nat} {b:Ar},t<R.length->b∈R.getD t []->(b.2+(A.length:Int)).toNat=A.length+b.2.toNat:=fun ht hb=>by have:=EJ hR ht hb;omega
 unfold WA
 constructor
 rotate_left
 ·rintro ⟨v,rfl,⟨h0,h1⟩ | ⟨h0,t,ht,b,hb,h1,h2⟩⟩
  ·exact .inl ⟨h0,(IB hlo).2 ⟨v,rfl,h1⟩⟩
  have htl:=ht.lt hs hE
  refine .inr ⟨h0,A.length+t,(IB hlo).2 ⟨t,rfl,ht⟩,(b.1,b.2+(A.length:Int)),by rw [U7];exact List.mem_map.2 ⟨b,hb,rfl⟩,h1,?_⟩
  simp only
  rw [hsh htl hb]
  exact (IB hlo).2 ⟨v,rfl,h2⟩
 rintro (⟨h0,h1⟩ | ⟨h0,t,ht,a,ha,h1,h2⟩)
 ·obtain ⟨v,rfl,hr⟩:=(IB hlo).1 h1
  exact ⟨v,rfl,.inl ⟨h0,hr⟩⟩
 obtain ⟨v,rfl,hr⟩:=(IB hlo).1 ht
 rw [U7] at ha
 obtain ⟨b,hb,rfl⟩:=List.mem_map.1 ha
 have hvl:=hr.lt hs hE
 simp only at h1 h2
 rw [hsh hvl hb] at h2
 obtain ⟨v2,rfl,hr2⟩:=(IB hlo).1 h2
 exact ⟨v2,rfl,.inr ⟨h0,v,hr,b,hb,h1,hr2⟩⟩
theorem WA.lt {R:List (List Ar)} (hR:Bv R=true) {s u:Nat} {e:Int} (hs:s<R.length) (h:WA R s e u):u<R.length:=by
 have hE:=Cw true (gEg (gE4 hR).1:BE R=true)
 rcases h with ⟨_,h⟩ | ⟨_,t,ht,a,ha,_,h⟩
 ·exact h.lt hs hE
 exact h.lt (EJ hR (ht.lt hs hE) ha).2.2.2 hE
theorem Zg {A R:List (List Ar)} (hz:Bv (Eo A R)=true) (hA:Bv A=true) {s:Nat} (hs:s<A.length) {a:Ar}:a∈(C9 (Eo A R)).getD s []↔a∈(C9 A).getD s []:=by
 rw [EK hz (by rw [CF];omega),EK hA hs]
 constructor
 rotate_left
 ·rintro ⟨u,hu,h1,h2⟩
  exact ⟨u,by rw [CF];omega,(Zp hA hs).2 h1,h2⟩
 rintro ⟨u,_,h1,h2⟩
 have h3:=(Zp hA hs).1 h1
 exact ⟨u,h3.lt hA hs,h3,h2⟩
theorem Zh {A R:List (List Ar)} (hz:Bv (Eo A R)=true) (hR:Bv R=true) {s:Nat} (hs:s<R.length) {a:Ar}:a∈(C9 (Eo A R)).getD (A.length+s) []↔∃ b∈(C9 R).getD s [],a=(b.1,b.2+(A.length:Int)):=by
 rw [EK hz (by rw [CF];omega)]
 constructor
 rotate_left
 ·rintro ⟨b,hb,rfl⟩
  obtain ⟨v,hv,h1,h2⟩:=(EK hR hs).1 hb
  exact ⟨A.length+v,by rw [CF];omega,(Zq hR hs).2 ⟨v,rfl,h1⟩,by simp only;omega⟩
 rintro ⟨u,_,h1,h2⟩
 obtain ⟨v,rfl,h3⟩:=(Zq hR hs).1 h1
 exact ⟨(a.1,(v:Int)),(EK hR hs).2 ⟨v,h3.lt hR hs,h3,rfl⟩,by obtain ⟨e,t⟩:=a;simp only at h2 ⊢;rw [h2];congr 1;omega⟩
theorem MtW.both {α:Type} {A R:List (List Ar)} {kA kR:Nat->α} (hA:Bv A=true) (hR:Bv R=true) (hn:A.length+R.length<=100) (hz:Bv (Eo A R)=true) (h1:MtW A kA A kA) (h2:MtW A kA R kR) (h3:MtW R kR A kA) (h4:MtW R kR R kR):MtW (Eo A R) (ZF A.length kA kR) (Eo A R) (ZF A.length kA kR):=by
 have hlA:BE A=true:=gEg (gE4 hA).1
 have hlo:BE R=true:=gEg (gE4 hR).1
 have hE:=Cw true hlA
 have v1:∀ s,s<A.length->VwW (Eo A R) (ZF A.length kA kR) s A kA s:=fun s hs=>by
  have hk:∀ a∈(C9 A).getD s [],ZF A.length kA kR a.2.toNat=kA a.2.toNat:=fun a ha=>if_pos (YN hA (by omega) hs ha).2
  refine ⟨hs,if_pos hs,UV hE hs,fun a ha=>?_,fun b hb=>?_⟩
  rotate_left
  ·exact ⟨b,(Zg hz hA hs).2 hb,rfl,hk b hb⟩
  have ha:=(Zg hz hA hs).1 ha
  exact ⟨a,ha,rfl,(hk a ha).symm⟩
 have v2:∀ s,s<R.length->VwW (Eo A R) (ZF A.length kA kR) (A.length+s) R kR s:=fun s hs=>by
  have hk:∀ a∈(C9 R).getD s [],ZF A.length kA kR (a.2+(A.length:Int)).toNat=kR a.2.toNat:=fun a ha=>by
   have:=YN hR (by omega) hs ha
   unfold ZF
   rw [if_neg (by omega)]
   congr 1;omega
  refine ⟨hs,by unfold ZF;rw [if_neg (by omega)];congr 1;omega,UW hlo,fun a ha=>?_,fun b hb=>?_⟩
  rotate_left
  ·exact ⟨_,(Zh hz hR hs).2 ⟨b,hb,rfl⟩,rfl,hk b hb⟩
  obtain ⟨b,hb,rfl⟩:=(Zh hz hR hs).1 ha
  exact ⟨b,hb,rfl,(hk b hb).symm⟩
 have hv:∀ s,s<(Eo A R).length->s<A.length\/∃ s',s'<R.length/\s=A.length+s':=fun s hs=>by
  rw [CF] at hs
  by_cases e:s<A.length
  ·exact .inl e
  exact .inr ⟨s - A.length,by omega,by omega⟩
 intro s t hs ht h
 rcases hv s hs with hs2 | ⟨s,hs2,rfl⟩ <;> rcases hv t ht with ht2 | ⟨t,ht2,rfl⟩
 ·exact (v1 s hs2).mt (v1 t ht2) h1 h
 ·exact (v1 s hs2).mt (v2 t ht2) h2 h
 ·exact (v2 s hs2).mt (v1 t ht2) h3 h
 exact (v2 s hs2).mt (v2 t ht2) h4 h
section
variable {R X : List (List Ar)} {f kX : Nat -> Nat}
end
end Go.Proofs.YtjijjfkalheokaaGreatDoor
