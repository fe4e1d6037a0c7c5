/- Lemmas. -/
import Derived.Test.YtjijjfkalheokaaDoorG67
import Derived.Test.YtjijjfkalheokaaDoorG45
import Derived.Test.YtjijjfkalheokaaDoorG39
import Derived.Test.YtjijjfkalheokaaDoorZk
import Derived.Test.YtjijjfkalheokaaDoorMK
import Derived.Test.YtjijjfkalheokaaDoorMit
import Derived.Lib.TrailingZeros
import Derived.Test.YtjijjfkalheokaaDoorQu1
namespace Go.Proofs.YtjijjfkalheokaaDoor
set_option linter.unusedVariables false
set_option linter.unusedSimpArgs false
open Go.RowKit
set_option maxRecDepth 100000
attribute [local go_sem] lga C.pl C.one

def rL (n:Nat) (B:List Bool):List Int:=((List.range n).filter (Dr B)).map Int.ofNat
theorem Rm (n:Nat) (B:List Bool):(rL n B).length<=n:=by
 unfold rL
 rw [List.length_map]
 have:=List.length_filter_le (Dr B) (List.range n)
 rwa [List.length_range] at this
def Cy (R:List (List Ar)) (s:Nat):Prop:=∃ w,w∈Uy true R s/\Rc (Uy true R) w s
def CyL (R:List (List Ar)) (k:Nat) (Ls:List Nat):Prop:=Ls.length<=k/\∀ g,g∈Ls↔g<k/\Cy R g
theorem CyL.yes {R:List (List Ar)} {k:Nat} {Ls:List Nat} (h:CyL R k Ls) (hc:Cy R k):CyL R (k+1) (Ls++[k]):=by
 refine ⟨by simp only [List.length_append,List.length_singleton];have:=h.1;omega,fun g=>?_⟩
 rw [List.mem_append,h.2,List.mem_singleton]
 constructor
 ·rintro (⟨h1,h2⟩ | rfl)
  ·exact ⟨by omega,h2⟩
  exact ⟨by omega,hc⟩
 rintro ⟨h1,h2⟩
 by_cases e:g=k
 ·exact .inr e
 exact .inl ⟨by omega,h2⟩
def WA (R:List (List Ar)) (s:Nat) (e:Int) (u:Nat):Prop:=(e=0/\Rc (Uy true R) s u)\/(e ≠ 0/\∃ t,Rc (Uy true R) s t/\∃ a∈R.getD t [],a.1=e/\Rc (Uy true R) a.2.toNat u)
def T8 (R:List (List Ar)) (s:Nat) (e:Int) (L:List Int):Prop:=∃ B:List Bool,B.length=R.length/\L=rL R.length B/\∀ u,u<R.length->(Dr B u=true↔WA R s e u)
theorem Sq {n:Nat} {B:List Bool}:∀ x∈rL n B,0<=x/\x<(n:Int):=fun x hx=>by
 unfold rL at hx
 obtain ⟨u,hu,rfl⟩:=List.mem_map.1 hx
 have:=(List.mem_filter.1 hu).1
 rw [List.mem_range] at this
 simp only [Int.ofNat_eq_natCast];omega
noncomputable def Vo (R:List (List Ar)) (s:Nat) (e:Int):List Int:=rL R.length ((List.range R.length).map fun u=>@decide (WA R s e u) (Classical.propDecidable _))
theorem Rv (R:List (List Ar)) (s:Nat) (e:Int):T8 R s e (Vo R s e):=by
 refine ⟨(List.range R.length).map fun u=>@decide (WA R s e u) (Classical.propDecidable _),by simp,rfl,fun u hu=>?_⟩
 unfold Dr
 rw [gE2,List.getElem?_map,List.getElem?_range hu]
 exact @decide_eq_true_iff _ (Classical.propDecidable _)
theorem OY {R:List (List Ar)} (_hlo:Br R=true) {s:Nat} {e:Int} (_hs:s<R.length):(Vo R s e).length<=R.length/\∀ x∈Vo R s e,0<=x/\x<(R.length:Int):=⟨Rm _ _,fun x hx=>Sq x hx⟩
noncomputable def Vp (R:List (List Ar)) (s:Nat) (e:Int):List Ar:=(Vo R s e).map fun u=>(e,u)
noncomputable def Vq (R:List (List Ar)) (Ev:List Int) (s k:Nat):List Ar:=(Ev.take k).flatMap (Vp R s)
noncomputable def Vr (R:List (List Ar)) (Ev:List Int) (s:Nat):List Ar:=Vq R Ev s Ev.length
noncomputable def Vs (R:List (List Ar)) (Ev:List Int) (k:Nat):List (List Ar):=(List.range k).map (Vr R Ev)
theorem PZ (R:List (List Ar)) (Ev:List Int) (k:Nat):(Vs R Ev k).length=k:=by simp [Vs]
theorem NX {R:List (List Ar)} {Ev:List Int} {s k:Nat} (h:k<Ev.length):Vq R Ev s (k+1)=Vq R Ev s k++Vp R s Ev[k]:=by
 unfold Vq
 rw [gE8 h,List.flatMap_append]
 simp
theorem Q0 {R:List (List Ar)} (hlo:Br R=true) {Ev:List Int} {s:Nat} (hs:s<R.length):∀ k,k<=Ev.length->(Vq R Ev s k).length<=k*R.length:=by
 intro k
 induction k with
 | zero=>intro _;simp [Vq]
 | succ k ih=>
  intro hk
  have h1:=ih (by omega)
  have h2:=(OY hlo (e:=Ev[k]) hs).1
  rw [NX hk,List.length_append,Vp,List.length_map,Nat.succ_mul]
  omega
noncomputable def BE (R:List (List Ar)):List (List Ar):=Vs R (V3 R R.length) R.length
theorem GA {R:List (List Ar)} (hv:Bg R=true) (hn:R.length<=100):(BE R).length=R.length/\∀ r∈BE R,r.length<=1000000/\∀ a∈r,0<=a.2/\a.2<(R.length:Int):=by
 have hlo:Br R=true:=gEg (gE4 hv).1
 have hl:(BE R).length=R.length:=PZ _ _ _
 have hev:=Ju (R:=R) (fun r hr a ha=>by have:=(gE4 hlo).2.2.2 r hr a ha;omega) R.length (Nat.le_refl _)
 have hevl:(V3 R R.length).length<=1026:=OR hev.1 (by simpa using hev.2.1)
 refine ⟨hl,fun r hr=>?_⟩
 obtain ⟨s,hs,rfl⟩:=List.mem_map.1 hr
 rw [List.mem_range] at hs
 have h1:=Q0 hlo (Ev:=V3 R R.length) hs _ (Nat.le_refl _)
 have h2:(V3 R R.length).length*R.length<=1026*100:=Nat.mul_le_mul hevl hn
 refine ⟨by unfold Vr;omega,fun a ha=>?_⟩
 unfold Vr Vq at ha
 obtain ⟨e,_,h⟩:=List.mem_flatMap.1 ha
 obtain ⟨x,hx,rfl⟩:=List.mem_map.1 h
 exact (OY hlo hs).2 x hx
def Vu (cl:List Int) (a:Ar):Option Ar:=if a.1 ≠ 0 then some (a.1,cl.getD a.2.toNat 0) else none
def Vv (cl:List Int) (row:List Ar):List Ar:=row.filterMap (Vu cl)
def YW (cl:List Int) (X:List (List Ar)) (s:Nat):List Ar:=(0,cl.getD s 0) :: Vv cl (X.getD s [])
def Vx (f:Nat->Nat) (cl:List Int) (X:List (List Ar)) (k c:Nat):List Ar:=((List.range k).filter fun s=>f s == c).flatMap (YW cl X)
def Vy (f:Nat->Nat) (cl:List Int) (X:List (List Ar)) (k:Nat):List (List Ar):=(List.range X.length).map (Vx f cl X k)
theorem Q1 (cl:List Int) (row:List Ar):(Vv cl row).length<=row.length:=List.length_filterMap_le _ _
theorem M5 (f:Nat->Nat) (cl:List Int) (X:List (List Ar)) (k:Nat):(Vy f cl X k).length=X.length:=by simp [Vy]
theorem Q2 {f:Nat->Nat} {cl:List Int} {X:List (List Ar)} {k c:Nat} (h:c<X.length):(Vy f cl X k)[c]?=some (Vx f cl X k c):=by simp [Vy,h]
theorem NY (f:Nat->Nat) (cl:List Int) (X:List (List Ar)) (k c:Nat):Vx f cl X (k+1) c=Vx f cl X k c++if f k=c then YW cl X k else []:=by
 unfold Vx
 rw [List.range_succ,List.filter_append,List.flatMap_append]
 congr 1
 by_cases h:f k=c
 ·simp [h]
 simp [h]
theorem M6 (f:Nat->Nat) (cl:List Int) (X:List (List Ar)) (c:Nat):∀ k,k<=X.length->(Vx f cl X k c).length<=k+BP (X.take k):=by
 intro k
 induction k with
 | zero=>intro _;simp [Vx]
 | succ k ih=>
  intro hk
  have h1:=ih (by omega)
  have h2:=Cr (R:=X) (k:=k) hk
  have h3:=Q1 cl X[k]
  have h4:X.getD k []=X[k]:=by rw [gE2,gE1 hk];rfl
  rw [NY,List.length_append]
  split
  ·unfold YW;rw [h4,List.length_cons];omega
  simp;omega
def Vz (E:List Ed) (c:Nat):List Int:=(E.filter fun e=>e.1 == c).map fun e=>(e.2:Int)
def VA (n:Nat) (E:List Ed):List (List Int):=(List.range n).map (Vz E)
theorem Q3 {n:Nat} {E:List Ed} {c:Nat} (h:c<n):(VA n E)[c]?=some (Vz E c):=by simp [VA,h]
theorem M7 {E:List Ed} {c:Nat} {x:Int}:x∈Vz E c↔∃ t:Nat,x=(t:Int)/\(c,t)∈E:=by
 unfold Vz
 simp only [List.mem_map,List.mem_filter,beq_iff_eq]
 constructor
 rotate_left
 ·rintro ⟨t,rfl,h⟩
  exact ⟨(c,t),⟨h,rfl⟩,rfl⟩
 rintro ⟨e,⟨h1,h2⟩,rfl⟩
 exact ⟨e.2,rfl,by rw [<- h2];exact h1⟩
def VB (O:List (List Ar)) (nx:List Int):List Ar:=nx.flatMap fun t=>O.getD t.toNat []
def VC (N:List (List Int)) (O:List (List Ar)) (c:Nat):List (List Ar):=O.set c (CI (O.getD c []++VB O (N.getD c [])))
theorem Q4 (N:List (List Int)) (O:List (List Ar)) (c:Nat):(VC N O c).length=O.length:=by simp [VC]
theorem Cu {α:Type} [DecidableEq α]:∀ {l m:List α},l.Nodup->(∀ x∈l,x∈m)->l.length<=m.length
 | [],_,_,_=>Nat.zero_le _
 | a :: l,m,h,hs=>by
  have h2:=List.nodup_cons.1 h
  have ha:=hs a List.mem_cons_self
  have ih:=Cu (m:=m.erase a) h2.2 fun x hx=>(List.mem_erase_of_ne (fun e=>h2.1 (by rw [<- e];exact hx))).2 (hs x (gEf _ hx))
  have h3:=List.length_erase_of_mem ha
  have h4:=List.length_pos_of_mem ha
  simp only [List.length_cons]
  omega
theorem Im {l:List Ar} (h:SortA l):l.Nodup:=h.imp fun {a b} hab=>by
 rintro rfl
 rw [E3] at hab;cases hab
def VD (cl:List Int) (X:List (List Ar)):List Ar:=(List.range X.length).flatMap (YW cl X)
theorem Q5 (cl:List Int) (X:List (List Ar)):(VD cl X).length<=X.length+BP X:=by
 have h:VD cl X=Vx (fun _=>0) cl X X.length 0:=by
  unfold VD Vx
  rw [List.filter_eq_self.2 (fun _ _=>by simp)]
 rw [h]
 have:=M6 (fun _=>0) cl X 0 X.length (Nat.le_refl _)
 rwa [List.take_length] at this
structure P3 (f:Nat->Nat) (cl:List Int) (X:List (List Ar)) (Q:List Nat) (i:Nat) (O:List (List Ar)):Prop where
 len:O.length=X.length
 sz:∀ c,(O.getD c []).length<=X.length+BP X
 sub:∀ c,∀ x∈O.getD c [],x∈VD cl X
 raw:∀ c,c<X.length->c ∉ Q.take i->O.getD c []=Vx f cl X X.length c
 don:∀ c,c∈Q.take i->SortA (O.getD c [])/\∀ x,x∈O.getD c []↔∃ s,s<X.length/\Rc (Uy true X) c s/\x∈YW cl X s
theorem GB (f:Nat->Nat) (cl:List Int) (X:List (List Ar)) (k:Nat) {c:Nat} (h:c<X.length):(Vy f cl X k).getD c []=Vx f cl X k c:=by rw [gE2,Q2 h];rfl
theorem P3.start (f:Nat->Nat) (cl:List Int) (X:List (List Ar)) (Q:List Nat):P3 f cl X Q 0 (Vy f cl X X.length):=by
 have out:∀ c,¬ c<X.length->(Vy f cl X X.length).getD c []=[]:=fun c h=>by rw [gE2,List.getElem?_eq_none (by rw [M5];omega)];rfl
 refine ⟨M5 _ _ _ _,fun c=>?_,fun c x hx=>?_,fun c hc _=>GB _ _ _ _ hc,fun c hc=>by simp at hc⟩
 ·by_cases h:c<X.length
  rotate_left
  ·rw [out c h];simp
  rw [GB _ _ _ _ h]
  have:=M6 f cl X c X.length (Nat.le_refl _)
  rwa [List.take_length] at this
 by_cases h:c<X.length
 rotate_left
 ·rw [out c h] at hx;simp at hx
 rw [GB _ _ _ _ h] at hx
 obtain ⟨s,h1,h2⟩:=List.mem_flatMap.1 hx
 exact List.mem_flatMap.2 ⟨s,(List.mem_filter.1 h1).1,h2⟩
theorem Io {X:List (List Ar)} {D:List Int} (hv:Bg X=true) (h:CpOk X D) {v s:Nat} (hvl:v<X.length) (hr:Rc (Uy true X) v s):Vm D v=Vm D s\/∃ t,(Vm D v,t)∈Vf (Vm D) X X.length/\Rc (Uy true X) t s:=by
 have hlo:Br X=true:=gEg (gE4 hv).1
 have hE:=Ce true hlo
 induction hr with
 | refl=>exact .inl rfl
 | @tail u w h1 h2 ih=>
  rcases ih with e | ⟨t,e1,e2⟩
  rotate_left
  ·exact .inr ⟨t,e1,e2.tail h2⟩
  by_cases ew:Vm D u=Vm D w
  ·exact .inl (e.trans ew)
  have hu:=h1.lt hvl hE
  have hw:=hE _ hu _ h2
  refine .inr ⟨Vm D w,?_,(Bi hv h hw).2.2.2.1⟩
  rw [Ec]
  rw [Ff hv] at h2
  exact ⟨u,hu,(0,(w:Int)),h2,rfl,by simpa using ew,by rw [e];simp⟩
theorem Rw {X:List (List Ar)} {D:List Int} (hv:Bg X=true) (h:CpOk X D) {c t:Nat} (he:(c,t)∈Vf (Vm D) X X.length):Rc (Uy true X) c t:=by
 have hlo:Br X=true:=gEg (gE4 hv).1
 obtain ⟨s,hs,a,ha,h0,hne,e⟩:=Ec.1 he
 cases e
 have hg:X.getD s []=X[s]:=by rw [gE2,gE1 hs];rfl
 have hb:=(gE4 hlo).2.2.2 _ (gE6 hs) a (by rw [<- hg];exact ha)
 have ht:a.2.toNat<X.length:=by omega
 have hadj:a.2.toNat∈Uy true X s:=by
  rw [Ff hv]
  have:((0:Int),((a.2.toNat:Nat):Int))=a:=by
   rcases a with ⟨x,y⟩
   simp only at h0 hb ⊢
   rw [h0];congr 1;omega
  rw [this];exact ha
 exact ((Bi hv h hs).2.2.2.1.trans (.one hadj)).trans (Bi hv h ht).2.2.1
theorem P3.step {X:List (List Ar)} {D cl:List Int} {Q:List Nat} {O:List (List Ar)} {i:Nat} (hv:Bg X=true) (h:CpOk X D) (hQ:Gy (Vf (Vm D) X X.length) X.length (Vm D) Q) (hP:P3 (Vm D) cl X Q i O) {c:Nat} (hi:Q[i]?=some c):P3 (Vm D) cl X Q (i+1) (VC (VA X.length (Vf (Vm D) X X.length)) O c):=by
 have hlo:Br X=true:=gEg (gE4 hv).1
 have hE:=Ce true hlo
 obtain ⟨hnd,hmem,htop⟩:=hQ
 have hil:i<Q.length:=(List.getElem?_eq_some_iff.1 hi).1
 have hcQ:c∈Q:=gE9 hi
 obtain ⟨hc,hfc⟩:=(hmem c).1 hcQ
 have hcn:c ∉ Q.take i:=fun hin=>by
  obtain ⟨j,hj,e⟩:=List.mem_take_iff_getElem.1 hin
  have h1:=(List.getElem?_eq_some_iff.1 hi).2
  have h2:Q[j]'(by omega)=Q[i]:=e.trans h1.symm
  have:=(List.getElem_inj hnd).1 h2
  omega
 have hsucc:Q.take (i+1)=Q.take i++[c]:=by
  rw [gE8 hil,(List.getElem?_eq_some_iff.1 hi).2]
 have hN:(VA X.length (Vf (Vm D) X X.length)).getD c []=Vz (Vf (Vm D) X X.length) c:=by rw [gE2,Q3 hc];rfl
 have hself:(VC (VA X.length (Vf (Vm D) X X.length)) O c).getD c []=CI (O.getD c []++VB O (Vz (Vf (Vm D) X X.length) c)):=by
  unfold VC
  rw [hN,gE2,gEc (by rw [hP.len];exact hc)];rfl
 have hoth:∀ d,d ≠ c->(VC (VA X.length (Vf (Vm D) X X.length)) O c).getD d []=O.getD d []:=fun d hd=>by
  unfold VC
  rw [gE2,gE5 (Ne.symm hd),<- gE2]
 have hin:∀ x,x∈O.getD c []++VB O (Vz (Vf (Vm D) X X.length) c)->x∈VD cl X:=fun x hx=>by
  rcases List.mem_append.1 hx with hx | hx
  ·exact hP.sub _ _ hx
  obtain ⟨t,_,ht⟩:=List.mem_flatMap.1 hx
  exact hP.sub _ _ ht
 have hmemc:∀ x,x∈O.getD c []++VB O (Vz (Vf (Vm D) X X.length) c)↔∃ s,s<X.length/\Rc (Uy true X) c s/\x∈YW cl X s:=by
  intro x
  rw [List.mem_append,hP.raw c hc hcn]
  constructor
  rotate_left
  ·rintro ⟨s,hs,h1,h2⟩
   rcases Io hv h hc h1 with e | ⟨t,he,h3⟩
   ·refine .inl (List.mem_flatMap.2 ⟨s,List.mem_filter.2 ⟨by simpa using hs,?_⟩,h2⟩)
    rw [hfc] at e;simp [e]
   rw [hfc] at he
   refine .inr (List.mem_flatMap.2 ⟨(t:Int),M7.2 ⟨t,rfl,he⟩,?_⟩)
   simp only [Int.toNat_natCast]
   obtain ⟨j,hj,hjt⟩:=htop i c hi _ he rfl
   have ht:t∈Q.take i:=by
    rw [List.mem_take_iff_getElem]
    have h5:=List.getElem?_eq_some_iff.1 hjt
    exact ⟨j,by have:=h5.1;omega,h5.2⟩
   exact ((hP.don t ht).2 x).2 ⟨s,hs,h3,h2⟩
  rintro (hx | hx)
  ·obtain ⟨s,h1,h2⟩:=List.mem_flatMap.1 hx
   have h3:=List.mem_filter.1 h1
   have hs:s<X.length:=by simpa using h3.1
   have hfs:Vm D s=c:=by simpa using h3.2
   refine ⟨s,hs,?_,h2⟩
   rw [<- hfs];exact (Bi hv h hs).2.2.2.1
  obtain ⟨t,h1,h2⟩:=List.mem_flatMap.1 hx
  obtain ⟨t,rfl,he⟩:=M7.1 h1
  (try simp only [Int.toNat_natCast] at h2)
  obtain ⟨j,hj,hjt⟩:=htop i c hi _ he rfl
  have ht:t∈Q.take i:=by
   rw [List.mem_take_iff_getElem]
   have h5:=List.getElem?_eq_some_iff.1 hjt
   exact ⟨j,by have:=h5.1;omega,h5.2⟩
  obtain ⟨s,hs,h3,h4⟩:=((hP.don t ht).2 x).1 h2
  exact ⟨s,hs,(Rw hv h he).trans h3,h4⟩
 refine ⟨by rw [Q4,hP.len],fun d=>?_,fun d x hx=>?_,fun d hd hdn=>?_,fun d hd=>?_⟩
 ·by_cases e:d=c
  rotate_left
  ·rw [hoth d e];exact hP.sz d
  subst e
  rw [hself]
  refine Nat.le_trans (Cu (m:=VD cl X) (Im (AD _)) fun x hx=>hin x ((C8 _ _).1 hx)) (Q5 cl X)
 ·by_cases e:d=c
  rotate_left
  ·rw [hoth d e] at hx;exact hP.sub d x hx
  subst e
  rw [hself,C8] at hx
  exact hin x hx
 ·rw [hsucc] at hdn
  have e:d ≠ c:=fun e=>hdn (by rw [e];simp)
  rw [hoth d e]
  exact hP.raw d hd fun h=>hdn (List.mem_append_left _ h)
 rw [hsucc] at hd
 rcases List.mem_append.1 hd with h1 | h1
 ·have e:d ≠ c:=fun e=>hcn (by rw [<- e];exact h1)
  rw [hoth d e]
  exact hP.don d h1
 have e:d=c:=by simpa using h1
 subst e
 rw [hself]
 exact ⟨AD _,fun x=>by rw [C8];exact hmemc x⟩
theorem P3.done {X:List (List Ar)} {D cl:List Int} {Q:List Nat} {O:List (List Ar)} (hv:Bg X=true) (h:CpOk X D) (hQ:Gy (Vf (Vm D) X X.length) X.length (Vm D) Q) (hP:P3 (Vm D) cl X Q Q.length O) {s:Nat} (hs:s<X.length):O.getD (Vm D s) []=UX (Gv X) cl s:=by
 obtain ⟨_,p2,p3,p4,p5⟩:=Bi hv h hs
 have hin:Vm D s∈Q.take Q.length:=by rw [List.take_length];exact (hQ.2.1 _).2 ⟨p2,p5⟩
 obtain ⟨h1,h2⟩:=hP.don _ hin
 refine BN h1 (AD _) fun x=>?_
 have hE:=Ce true (gEg (gE4 hv).1:Br X=true)
 rw [h2]
 refine Iff.trans ?_ (CS (S:=Gv X) (c:=cl) (s:=s) (x:=x)).symm
 constructor
 rotate_left
 ·rintro ⟨a,ha,rfl⟩
  rcases (Gw hv hs).1 ha with ⟨h0,u,e,h3⟩ | ⟨h0,t,h3,h4⟩
  ·have hu:=h3.lt hs hE
   refine ⟨u,hu,p4.trans h3,List.mem_cons.2 (.inl ?_)⟩
   rw [h0,e];simp
  refine ⟨t,h3.lt hs hE,p4.trans h3,gEf _ (List.mem_filterMap.2 ⟨a,h4,?_⟩)⟩
  unfold Vu
  rw [if_pos h0]
 rintro ⟨u,hu,h3,h4⟩
 have hsu:=p3.trans h3
 rcases List.mem_cons.1 h4 with rfl | h4
 ·exact ⟨(0,(u:Int)),(Gw hv hs).2 (.inl ⟨rfl,u,rfl,hsu⟩),by simp⟩
 obtain ⟨a,ha,e⟩:=List.mem_filterMap.1 h4
 unfold Vu at e
 split at e
 rotate_left
 ·cases e
 rename_i h0
 cases e
 exact ⟨a,(Gw hv hs).2 (.inr ⟨h0,u,hsu,ha⟩),rfl⟩
def CD (acc:List Int) (a:Ar):List Int:=if acc.getLast?=some a.1 then acc else acc++[a.1]
def Dd (r:List Ar):List Int:=r.foldl CD []
theorem Ip (acc:List Int) (a:Ar):(CD acc a).length<=acc.length+1:=by unfold CD;split <;> simp
theorem M8 {r:List Ar} {k:Nat} (h:k<r.length):Dd (r.take (k+1))=CD (Dd (r.take k)) r[k]:=by
 unfold Dd
 rw [gE8 h,List.foldl_append];rfl
theorem JA (r:List Ar):(Dd r).length<=r.length:=by
 have:∀ (r:List Ar) (acc:List Int),(r.foldl CD acc).length<=acc.length+r.length:=by
  intro r
  induction r with
  | nil=>intro acc;simp
  | cons a r ih=>
   intro acc
   have h1:=ih (CD acc a)
   have h2:=Ip acc a
   simp only [List.foldl_cons,List.length_cons]
   omega
 simpa [Dd] using this r []
set_option maxHeartbeats 1000000 in
theorem Iq (R:List (List Ar)) (s:Nat) (h:s<R.length) (hn:R.length<=1000000) (hr:∀ r∈R,r.length<=1000000):FC Tryd.prog 29 [BS R,.i s] [] (fun r o=>o=[.r ⟨3,1,true,A5 (Dd R[s])⟩]/\r=.a (.c (.s 0 (Dd R[s]).length))):=by
 refine A8 Tryd.func29 rfl (by rw [Tryd.ntmps29];simp) ?_
 rw [Tryd.ntmps29]
 simp only [Bs,BS]
 have hg:=gE1 h
 have hrl:=hr _ (gE6 h)
 generalize R[s]=row at *
 (refine Ue (an @A6 (an (AQ hg) (an @A4 @AA))) ?_;(repeat clear hK K);repeat refine kq fun K hK=>?_)
 refine B1 (CK 5 3 1 ?_) ?_
 ·simp only [go_sem]
 refine Ac (fun k:Nat=>{ tm:=[(5,.a (.c (.s 1 (Dd (row.take k)).length))),(12,.a (.c (.t 2 (Al row)))),(13,.i row.length),(14,.i k)],hp:=[.r ⟨24,1,false,[.t 1 (Ae R)]⟩,.r ⟨3,1,true,A5 (Dd (row.take k))⟩],n:=39,pin:=0 }) (fun k=>k<=row.length) (fun k=>row.length - k) 0 ?_ ?_ ?_
 ·omega
 ·simp only [List.take_zero,Dd,List.foldl_nil,List.length_nil]
  exact Un
 rintro k hk K hK
 by_cases hlt:k<row.length
 rotate_left
 ·have d1:decide ((k:Int)<(row.length:Int))=false:=by simpa using hlt
  have hke:row.take k=row:=gE7 (by omega)
  rw [hke]
  (refine Ue @d1 ?_;(repeat clear hK K);repeat refine kq fun K hK=>?_)
  refine Ul ?_
  (refine Uh ?_;repeat clear hK K)
  (refine Ud ?_;(repeat clear hK K);repeat refine kq fun K hK=>?_)
  exact Rf [1] Tryd.results29 @A7
 have d1:decide ((k:Int)<(row.length:Int))=true:=by simpa using hlt
 have hat:=AH hlt
 have hlen:=JA (row.take k)
 have hst:=M8 hlt
 have htk:(row.take k).length<=k:=by simp;omega
 generalize Dd (row.take k)=acc at *
 have op:=Jl acc row[k].1
 have fin:∀ b,Dd (row.take (k+1))=b->b=CD acc row[k]:=fun b h=>by rw [<- h,hst]
 clear hst
 (refine Ue @d1 ?_;(repeat clear hK K);repeat refine kq fun K hK=>?_)
 refine Uk ?_
 (refine CY (an @hat (an @A4 @AA)) ?_;(repeat clear hK K);repeat refine kq fun K hK=>?_)
 by_cases h0:acc.length=0
 ·have d2:((acc.length:Int) == 0)=true:=by simp [h0]
  have hs:Dd (row.take (k+1))=acc++[row[k].1]:=by
   rw [fin _ rfl]
   have:acc=[]:=List.length_eq_zero_iff.1 h0
   subst this;rfl
  (refine Ag 13 [(0,0),(1,0),(2,0),(3,0),(4,0),(5,0),(6,0),(7,0),(8,0),(9,1),(10,0),(11,1),(12,0),(13,2)] (by kernel_rfl) (by kernel_rfl) (by intro c st h;simp [Ai,AX,Tz] at h) ?_)
  (refine U8 (an @d2 @A2) ?_;repeat clear hK K)
  refine Uk ?_
  (refine Ue (an @A2 @op) ?_;(repeat clear hK K);repeat refine kq fun K hK=>?_)
  refine Um ?_
  refine hK _ (k+1) (by omega) (by omega) ?_
  rw [hs]
  refine Le.trans (Ad [0,4] rfl rfl) ?_
  (try simp only [List.set_nil,List.take_nil,List.take_zero,List.map_append,go_sem])
  (try simp only [A7])
  simp only [List.length_append,List.length_cons,List.length_nil]
  exact Un
 have d2:((acc.length:Int) == 0)=false:=by simp;intro e;simp [e] at h0
 obtain ⟨m,hm⟩:∃ m,acc.length=m+1:=⟨acc.length - 1,by omega⟩
 have e3:(acc.length:Int) - 1=(m:Int):=by omega
 have gl:acc[m]?=some acc[m]:=gE1 (by omega)
 have ge:(A5 acc)[m]?=some (.v (.int .i64 acc[m])):=Ak gl
 have hlast:acc.getLast?=some acc[m]:=by
  have e:acc.length - 1=m:=by omega
  rw [List.getLast?_eq_getElem?,e];exact gl
 by_cases hq:acc[m]=row[k].1
 ·have d3:(acc[m] != row[k].1)=false:=by simpa using hq
  have hs:Dd (row.take (k+1))=acc:=by
   rw [fin _ rfl,CD,if_pos (by rw [hlast,hq])]
  (refine Ag 13 [(0,0),(1,0),(2,0),(3,0),(4,0),(5,0),(6,0),(7,0),(8,0),(9,1),(10,0),(11,1),(12,0),(13,2)] (by kernel_rfl) (by kernel_rfl) (by intro c st h;simp [Ai,AX,Tz] at h) ?_)
  (refine U8 (an @d2 (an @A2 (an @e3 (an @ge @d3)))) ?_;repeat clear hK K)
  refine Ul ?_
  (refine Ud ?_;(repeat clear hK K);repeat refine kq fun K hK=>?_)
  refine Um ?_
  refine hK _ (k+1) (by omega) (by omega) ?_
  rw [hs]
  refine Le.trans (Ad [0,1] rfl rfl) ?_
  (try simp only [List.set_nil,List.take_nil,List.take_zero,List.map_append,go_sem])
  (try simp only [A7])
  exact Un
 have d3:(acc[m] != row[k].1)=true:=by simpa using hq
 have hs:Dd (row.take (k+1))=acc++[row[k].1]:=by
  rw [fin _ rfl,CD,if_neg (by rw [hlast];simpa using hq)]
 (refine Ag 13 [(0,0),(1,0),(2,0),(3,0),(4,0),(5,0),(6,0),(7,0),(8,0),(9,1),(10,0),(11,1),(12,0),(13,2)] (by kernel_rfl) (by kernel_rfl) (by intro c st h;simp [Ai,AX,Tz] at h) ?_)
 (refine U8 (an @d2 (an @A2 (an @e3 (an @ge @d3)))) ?_;repeat clear hK K)
 refine Uk ?_
 (refine Ue (an @A2 @op) ?_;(repeat clear hK K);repeat refine kq fun K hK=>?_)
 refine Um ?_
 refine hK _ (k+1) (by omega) (by omega) ?_
 rw [hs]
 refine Le.trans (Ad [0,4] rfl rfl) ?_
 (try simp only [List.set_nil,List.take_nil,List.take_zero,List.map_append,go_sem])
 (try simp only [A7])
 simp only [List.length_append,List.length_cons,List.length_nil]
 exact Un
section
variable {P : Program} {o : Oper} {st : ST} {K : ST -> Prop} {t kt e : TypeId} {s : Ks} {zv : Value} {id : Nat} {kv : List (Value × C)} {key : Value}
def VE (zv:Value) (ok:Bool):Option (Nat × C)->AV
 | some (_,c)=>match ok with
  | true=>.tup [.c c,.c (.v (.bool true))]
  | false=>.a (.c c)
 | none=>match ok with
  | true=>.tup [.c (.v zv),.c (.v (.bool false))]
  | false=>.a (.c (.v zv))
theorem BO {x ix:Operand} {ok:Bool} {r:Option (Nat × C)} (hu:P.underlying t=some (.map kt e)) (hK:KeyOk P kt s) (hze:(P.info? e).bind (·.zero)=some zv)
  (hd:Tn o st.n=true) (ho:o.op=.lookup t x ix ok) (hx:st.ev x=.a (.c (.m id))) (hm:st.hp[id]?=some (.m kv)) (hpl:kv.all (fun p=>p.2.pl)=true) (hkey:DX (st.ev ix)=some key) (hfit:Ek s key=true) (hf:Bf s key kv 0=some r)
  (h:K (st.put o.dst (VE zv ok r))):Stp P o st K:=by
 refine Ga hd (fun g w ρ hr hR=>?_) h
 obtain ⟨dst,op,ty,pos,af,gd⟩:=o
 simp only at ho
 subst ho
 have hz1:∀ w,(zeroValue e).run P w=.ok zv w:=by
  intro w
  cases hi:P.info? e with
  | none=>rw [hi] at hze;cases hze
  | some i=>
   rw [hi] at hze
   simp only [Option.bind_some] at hze
   simp [zeroValue,Cc hi,hze]
 obtain ⟨es,clock,m1,m2,m3,m4⟩:=(hr.mp id kv hm).map hf
 have e1:=hR x
 rw [hx] at e1
 obtain ⟨_,e1⟩:=e1
 have e2:=hR ix
 have e2:=IM hkey e2
 have hKv:KvOk kv es.toList:=⟨by simpa using m2,fun i p hp=>by
  obtain ⟨⟨e,f1,f2,_⟩,_⟩:=m3 i p hp
  exact ⟨e,by simpa using f1,f2⟩⟩
 obtain ⟨q,hq⟩:∃ q,Bx s key key=some q:=by
  unfold Ek at hfit
  split at hfit
  ·exact ⟨_,‹_›⟩
  cases hfit
 have hck:=hK.ck key q hq es.isEmpty w
 cases r with
 | some p=>
  obtain ⟨j,c⟩:=p
  obtain ⟨h1,h2⟩:=I5 hK key w hKv hf
  obtain ⟨k',h3,h4⟩:=h2 j c rfl
  obtain ⟨⟨e,f1,f2,f3⟩,f4⟩:=m3 j _ h3
  have hc:CR g st.hp w c e.val:=by
   have:=List.all_eq_true.1 hpl _ (gE9 h3)
   exact CellR.cr this f3
  have hfnd:TT es.toList 0 (some (j,c))=some (j,e.val):=by simp [TT,f1]
  rw [hfnd] at h1
  cases ok with
  | true=>
   refine ⟨.tuple #[e.val,.bool true],?_,[e.val,.bool true],rfl,rfl,fun i a ha=>?_⟩
   ·simp [execOp,Instr.lookup,run_underlying hu,e1,MapKept.run_getObj_map m1,e2,hck,h1]
   match i,ha with
   | 0,ha=>cases ha;exact ⟨_,rfl,hc⟩
   | 1,ha=>cases ha;exact ⟨_,rfl,rfl⟩
  | false=>
   refine ⟨e.val,?_,hc⟩
   simp [execOp,Instr.lookup,run_underlying hu,e1,MapKept.run_getObj_map m1,e2,hck,h1]
 | none=>
  obtain ⟨h1,_⟩:=I5 hK key w hKv hf
  have hfnd:TT es.toList 0 none=none:=rfl
  rw [hfnd] at h1
  cases ok with
  | true=>
   refine ⟨.tuple #[zv,.bool false],?_,[zv,.bool false],rfl,rfl,fun i a ha=>?_⟩
   ·simp [execOp,Instr.lookup,run_underlying hu,e1,MapKept.run_getObj_map m1,e2,hck,h1,hz1 w]
   match i,ha with
   | 0,ha=>cases ha;exact ⟨_,rfl,rfl⟩
   | 1,ha=>cases ha;exact ⟨_,rfl,rfl⟩
  | false=>
   refine ⟨zv,?_,rfl⟩
   simp [execOp,Instr.lookup,run_underlying hu,e1,MapKept.run_getObj_map m1,e2,hck,h1,hz1 w]
theorem FU {m kx v:Operand} {c:C} (hu:P.underlying t=some (.map kt e)) (hK:KeyOk P kt s) (hd:Tn o st.n=true) (ho:o.op=.mapUpdate t m kx v) (hm:st.ev m=.a (.c (.m id))) (hmm:st.hp[id]?=some (.m kv)) (hpl:kv.all (fun p=>p.2.pl)=true)
  (hkey:DX (st.ev kx)=some key) (hfit:Ek s key=true) (hv:st.ev v=.a (.c c)) (hone:c.one=true) (hf:Bf s key kv 0=some none)
  (h:K ({ st with hp:=st.hp.set id (.m (kv++[(key,c)])) }.put o.dst .u)):Stp P o st K:=by
 obtain ⟨q,hq⟩:∃ q,Bx s key key=some q:=by
  unfold Ek at hfit
  split at hfit
  ·exact ⟨_,‹_›⟩
  cases hfit
 have hcell:∀ {g:Gh} {w:World} {u:Value},CR g st.hp w c u->CellR g st.hp w id 0 c u:=fun h=>Eh hone h
 have hcpl:c.pl=true:=by cases c <;> first | rfl | cases hone
 intro M0 w0 a w N Q hR hN
 obtain ⟨g,⟨hp1,hp2⟩,hR⟩:=hR
 have e1:=hR.ev m
 rw [hm] at e1
 obtain ⟨_,e1⟩:=e1
 have e2:=hR.ev kx
 have e2:=IM hkey e2
 have e3:=hR.ev v
 rw [hv] at e3
 obtain ⟨es,clock,m1,m2,m3,m4⟩:=(hR.hr.mp id kv hmm).map hf
 have hKv:KvOk kv es.toList:=⟨by simpa using m2,fun i p hp=>by
  obtain ⟨⟨e,f1,f2,_⟩,_⟩:=m3 i p hp
  exact ⟨e,by simpa using f1,f2⟩⟩
 obtain ⟨h1,_⟩:=I5 hK key w hKv hf
 have hfnd:TT es.toList 0 none=none:=rfl
 rw [hfnd] at h1
 have hl:es.size=kv.length:=by simpa using hKv.1
 have r1:(Instr.mapUpdate t (.map (some (g.γ (.ob id)))) key (a.eval v)).run P w=.ok () { w with heap:=w.heap.setIfInBounds (g.γ (.ob id)) (.map (es.push { key:=key,val:=a.eval v,born:=clock }) (clock+1)) }:=by
  simp [Instr.mapUpdate,run_underlying hu,MapKept.run_getObj_map m1,hK.ck key q hq,h1,MapKept.run_setObj_map _ m1]
 have hset:=hR.mapset (es':=es.push { key:=key,val:=a.eval v,born:=clock }) (clock:=clock+1) (kv':=kv++[(key,c)]) hmm (by simp [hl]) (fun i p hp=>by
  rcases Nat.lt_or_ge i kv.length with hi | hi
  ·rw [gEa hi] at hp
   obtain ⟨⟨e',g1,g2,g3⟩,g4⟩:=m3 i p hp
   exact ⟨⟨e',by rw [Array.getElem?_push_lt (by omega)];rw [<- g1];simp [show i<es.size by omega],g2,g3⟩,g4⟩
  ·rw [gEb hi] at hp
   have hi':i=kv.length:=by
    have:=(List.getElem?_eq_some_iff.1 hp).1
    simp at this
    omega
   subst hi'
   simp at hp
   subst hp
   exact ⟨⟨{ key:=key,val:=a.eval v,born:=clock },by rw [<- hl];simp,rfl,hcell e3⟩,fun k' cs e=>by
    simp only at e
    rw [e] at hcpl;cases hcpl⟩) (m4.push _ _)
 have hrun:(execOp a.eval o).run P w=.ok .skip { w with heap:=w.heap.setIfInBounds (g.γ (.ob id)) (.map (es.push { key:=key,val:=a.eval v,born:=clock }) (clock+1)) }:=by
  unfold execOp
  simp [ho,e1,e2,r1]
 unfold Oper.wp
 rw [hrun]
 exact hN _ _ _ h ⟨g,⟨by cases o.dst <;> (simp [ST.put];omega),by cases o.dst <;> exact hp2⟩,hset.put (Ay hd) trivial⟩
theorem Q6 {src d el:TypeId} {x:Operand} {n q:Nat} {sl:Bool} {cells:List C} {ns:List Int} (hu1:P.underlying src=some (.slice el)) (hu2:P.underlying d=some .string) (hu3:P.underlying el=some (.int .u8))
  (hd:Tn o st.n=true) (ho:o.op=.convert src d x) (hx:st.ev x=.a (.c (.s id n))) (hrow':st.hp[id]?=some (.r ⟨q,1,sl,cells⟩)) (hns:ns.length=n) (e1:cells.take n=ns.map (fun m=>C.v (.int .u8 m)))
  (h:K (st.put o.dst (.a (.c (.v (.string ⟨⟨ns.map fun (m:Int)=>UInt8.ofNat m.toNat⟩⟩)))))):Stp P o st K:=by
 refine Ga hd (fun g w ρ hr hR=>?_) h
 obtain ⟨dst,op,ty,pos,af,gd⟩:=o
 simp only at ho
 subst ho
 have e2:=hR x
 rw [hx] at e2
 obtain ⟨_,hn,A,e2,e3,_⟩:=e2
 refine ⟨.string ⟨⟨ns.map fun (m:Int)=>UInt8.ofNat m.toNat⟩⟩,?_,rfl⟩
 have hconv:(Conv.bytesToString (.slice A n (g.κ id))).run P w=.ok (.string ⟨⟨ns.map fun (m:Int)=>UInt8.ofNat m.toNat⟩⟩) w:=by
  rcases hr.row id _ hrow' with ⟨h0,h2⟩ | ⟨h0,_,arr,ha,hla,hs,_,hcells⟩
  ·have hn0:n=0:=by omega
   subst hn0
   have:ns=[]:=List.eq_nil_of_length_eq_zero hns
   subst this
   cases A with
   | none=>simp [Conv.bytesToString,ByteArray.empty,ByteArray.emptyWithCapacity];rfl
   | some a=>simp [Conv.bytesToString,loadCells,loadCellsFrom,ByteArray.empty,ByteArray.emptyWithCapacity];rfl
  rw [e3 h0]
  have hload:(loadCells ⟨g.γ (.ob id),0,none⟩ n).run P w=.ok (ns.map (Value.int .u8)).toArray w:=by
   unfold loadCells
   rw [Bj _ _ _ 0 (ns.map (Value.int .u8)) #[] (by simpa using hns) (fun q u hq=>?_)]
   ·simp
   rw [cell_of_row _ _ _ _ _ _ ha]
   rw [List.getElem?_map,Option.map_eq_some_iff] at hq
   obtain ⟨m,hm,rfl⟩:=hq
   have hlt:q<n:=by rw [<- hns];exact (List.getElem?_eq_some_iff.1 hm).1
   have hcq:cells[q]?=some (.v (.int .u8 m)):=by
    have:(cells.take n)[q]?=some (.v (.int .u8 m)):=by rw [e1];simp [hm]
    rw [List.getElem?_take,if_pos hlt] at this
    exact this
   obtain ⟨u,f1,f2⟩:=hcells q _ hcq
   have f2:u=.int .u8 m:=f2
   subst f2
   simpa using f1
  simp only [Conv.bytesToString,Sem.run_bind,hload,Result.andThen_ok]
  rw [L6 (fun n s w=>by simp)]
  simp [ByteArray.empty,ByteArray.emptyWithCapacity]
  rfl
 simp [execOp,convert,run_underlying hu1,run_underlying hu2,e2,run_underlying hu3,hconv]
end
def kb (n:Int):List Int:=[IntKind.u8.wrap (n.fdiv (2 ^ (24:Int).toNat)),IntKind.u8.wrap (n.fdiv (2 ^ (16:Int).toNat)),IntKind.u8.wrap (n.fdiv (2 ^ (8:Int).toNat)),IntKind.u8.wrap n]
def Ir (xs:List Int):List Int:=xs.flatMap kb
def Is (xs:List Int):Value:=.string ⟨⟨(Ir xs).map fun (m:Int)=>UInt8.ofNat m.toNat⟩⟩
def VF (l:List Int):List C:=l.map fun m=>C.v (.int .u8 m)
theorem It (l:List Int):(VF l).length=l.length:=by simp [VF]
theorem Q7 (f:List Nat) (l:List Int):(VF l).map (C.ren f)=VF l:=by simp [VF,C.ren,Function.comp_def]
theorem Ci (xs:List Int):(Ir xs).length=xs.length*4:=by
 unfold Ir
 induction xs with
 | nil=>rfl
 | cons x r ih=>rw [List.flatMap_cons,List.length_append,ih,List.length_cons];simp [kb];omega
theorem M9 (xs:List Int) (x:Int):(VF (Ir xs)).take (xs.length*4)++[C.v (.int .u8 (IntKind.u8.wrap (x.fdiv (2 ^ (24:Int).toNat)))),C.v (.int .u8 (IntKind.u8.wrap (x.fdiv (2 ^ (16:Int).toNat)))),C.v (.int .u8 (IntKind.u8.wrap (x.fdiv (2 ^ (8:Int).toNat)))),C.v (.int .u8 (IntKind.u8.wrap x))]=VF (Ir (xs++[x])):=by
 rw [gE7 (by rw [It,Ci];exact Nat.le_refl _)]
 unfold Ir VF
 simp [kb]
theorem Rx (n:Int):IntKind.u8.wrap n=n % 256:=by simp [IntKind.wrap,IntKind.signed,IntKind.bits]
theorem Ry {x y:Int} (hx:0<=x/\x<2147483648) (hy:0<=y/\y<2147483648) (h:kb x=kb y):x=y:=by
 unfold kb at h
 simp only [List.cons.injEq,and_true,Rx] at h
 obtain ⟨h1,h2,h3,h4⟩:=h
 have e:∀ z:Int,z.fdiv (2 ^ (24:Int).toNat)=z / 16777216/\z.fdiv (2 ^ (16:Int).toNat)=z / 65536/\z.fdiv (2 ^ (8:Int).toNat)=z / 256:=fun z=>⟨Int.fdiv_eq_ediv_of_nonneg z (by decide),Int.fdiv_eq_ediv_of_nonneg z (by decide),Int.fdiv_eq_ediv_of_nonneg z (by decide)⟩
 rw [(e x).1,(e y).1] at h1
 rw [(e x).2.1,(e y).2.1] at h2
 rw [(e x).2.2,(e y).2.2] at h3
 omega
theorem Rz (x:Int):∀ m∈kb x,0<=m/\m<256:=by
 intro m hm
 unfold kb at hm
 simp only [List.mem_cons,List.not_mem_nil,or_false,Rx] at hm
 rcases hm with rfl | rfl | rfl | rfl <;> omega
theorem JB:∀ {xs ys:List Int},(∀ x∈xs,0<=x/\x<2147483648)->(∀ y∈ys,0<=y/\y<2147483648)->Ir xs=Ir ys->xs=ys
 | [],[],_,_,_=>rfl
 | [],y :: ys,_,_,h=>by have:=congrArg List.length h;rw [Ci,Ci] at this;simp at this
 | x :: xs,[],_,_,h=>by have:=congrArg List.length h;rw [Ci,Ci] at this;simp at this
 | x :: xs,y :: ys,hx,hy,h=>by
  have h1:kb x++Ir xs=kb y++Ir ys:=h
  obtain ⟨h2,h3⟩:=List.append_inj h1 rfl
  rw [Ry (hx x (by simp)) (hy y (by simp)) h2,JB (fun a ha=>hx a (gEf _ ha)) (fun a ha=>hy a (gEf _ ha)) h3]
theorem JC (xs:List Int):∀ m∈Ir xs,0<=m/\m<256:=by
 intro m hm
 obtain ⟨x,_,hx⟩:=List.mem_flatMap.1 hm
 exact Rz x m hx
theorem FV:∀ {l m:List Int},(∀ x∈l,0<=x/\x<256)->(∀ x∈m,0<=x/\x<256)->(l.map fun (m:Int)=>UInt8.ofNat m.toNat)=(m.map fun (m:Int)=>UInt8.ofNat m.toNat)->l=m
 | [],[],_,_,_=>rfl
 | [],y :: ys,_,_,h=>by simp at h
 | x :: xs,[],_,_,h=>by simp at h
 | x :: xs,y :: ys,hx,hy,h=>by
  simp only [List.map_cons,List.cons.injEq] at h
  have h1:=hx x (by simp)
  have h2:=hy y (by simp)
  have h3:=congrArg UInt8.toNat h.1
  simp only [UInt8.toNat_ofNat'] at h3
  have:x=y:=by omega
  rw [this,FV (fun a ha=>hx a (gEf _ ha)) (fun a ha=>hy a (gEf _ ha)) h.2]
theorem NZ {xs ys:List Int} (hx:∀ x∈xs,0<=x/\x<2147483648) (hy:∀ y∈ys,0<=y/\y<2147483648) (h:Is xs=Is ys):xs=ys:=by
 unfold Is at h
 injection h with h
 injection h with h
 injection h with h
 exact JB hx hy (FV (JC _) (JC _) h)
set_option maxHeartbeats 1000000 in
theorem RA (xs:List Int) (hn:xs.length<=100000000):FC Tryd.prog 76 [AK xs] [] (fun r o=>o=[]/\r=.a (.c (.v (Is xs)))):=by
 refine A8 Tryd.func76 rfl (by rw [Tryd.ntmps76];simp) ?_
 rw [Tryd.ntmps76]
 simp only [Bs,AK]
 (refine Ue @A3 ?_;(repeat clear hK K);repeat refine kq fun K hK=>?_)
 refine Ac (fun k:Nat=>{ tm:=[(3,.a (.c (.s 0 (k*4)))),(10,.a (.c (.t 1 (Af xs)))),(11,.i xs.length),(12,.i k)],hp:=[.r ⟨5,1,false,VF (Ir (xs.take k))⟩],n:=33,pin:=0 }) (fun k=>k<=xs.length) (fun k=>xs.length - k) 0 ?_ ?_ ?_
 ·omega
 ·simp only [show Int.toNat 0=0 from rfl,List.replicate_zero,List.take_zero,Ir,List.flatMap_nil,VF,List.map_nil,Nat.zero_mul]
  exact Un
 rintro k hk K hK
 have htl:(xs.take k).length=k:=by simp;omega
 by_cases hlt:k<xs.length
 ·have d1:decide ((k:Int)<(xs.length:Int))=true:=by simpa using hlt
  have hg:=Ap (gE1 hlt)
  have hp:=M9 (xs.take k) xs[k]
  rw [htl,<- gE8 hlt] at hp
  (refine Ue @d1 ?_;(repeat clear hK K);repeat refine kq fun K hK=>?_)
  refine Uk ?_
  (refine Ue (an @hg (an @A3 (an @It (an @Ci (an @htl @hp))))) ?_;(repeat clear hK K);repeat refine kq fun K hK=>?_)
  refine Um ?_
  refine hK _ (k+1) (by omega) (by omega) ?_
  refine Le.trans (Ad [2] rfl rfl) ?_
  (try simp only [List.set_nil,List.take_nil,List.take_zero,List.map_append,go_sem])
  (try simp only [Q7])
  have e4:k*4+4=(k+1)*4:=by omega
  (try simp only [e4])
  exact Un
 have d1:decide ((k:Int)<(xs.length:Int))=false:=by simpa using hlt
 have hke:xs.take k=xs:=gE7 (by omega)
 have hkl:k=xs.length:=by omega
 rw [hke]
 (refine Ue @d1 ?_;(repeat clear hK K);repeat refine kq fun K hK=>?_)
 refine Ul ?_
 (refine Uh ?_;repeat clear hK K)
 (refine Ud ?_;(repeat clear hK K);repeat refine kq fun K hK=>?_)
 (refine A9 rfl ?_;intro K1 hK1;refine Q6 (id:=0) (n:=k*4) (q:=5) (sl:=false) (cells:=VF (Ir xs)) (ns:=Ir xs) Tryd.underlying145 Tryd.underlying9 Tryd.underlying5 rfl rfl (by simp only [go_sem]) rfl (by rw [Ci];omega) (by rw [hkl,gE7 (by rw [It,Ci];exact Nat.le_refl _)];rfl) ?_;simp only [go_sem];refine hK1 _ ?_;clear hK1 K1)
 (refine Ud ?_;(repeat clear hK K);repeat refine kq fun K hK=>?_)
 ((try refine AU ?_);(try simp only [Ai,AX]);refine BQ (Ad [] rfl rfl) ?_;(try simp only [List.set_nil,List.take_nil,List.take_zero,List.map_append,go_sem]);((try refine AU ?_);(try refine Ab ?_);(try simp only [Ai,AX]);refine C6 (by first | exact .inl rfl | exact .inr rfl) rfl ?_;simp only [TC,GQ,FD,Hb,Tryd.results76,go_sem,true_and,and_true,Is]))
theorem JD {P:Program} {o:Oper} {st:ST} {K:ST->Prop} {t kt e:TypeId} {id:Nat} {kv:List (Value × C)} {x:Operand} {c:Call} (hu:P.underlying t=some (.map kt e)) (hd:Tn o st.n=true) (ho:o.op=.call c) (hc1:c.callee=.builtin .len) (hc2:c.args=#[x]) (hc3:c.argTypes=#[t]) (hx:st.ev x=.a (.c (.m id))) (hm:st.hp[id]?=some (.m kv)) (hit:N6 kv=false) (h:K (st.put o.dst (.i kv.length))):Stp P o st K:=by
 refine Ga hd (fun g w ρ hr hR=>?_) h
 obtain ⟨dst,op,ty,pos,af,gd⟩:=o
 simp only at ho
 subst ho
 obtain ⟨callee,args,ts⟩:=c
 simp only at hc1 hc2 hc3
 subst hc1;subst hc2;subst hc3
 obtain ⟨es,clock,m1,m2,_⟩:=(hr.mp id kv hm).map0 hit
 have e1:=hR x
 rw [hx] at e1
 obtain ⟨_,e1⟩:=e1
 refine ⟨.int .i64 kv.length,?_,rfl⟩
 simp only [execOp,resolve,invoke,builtin,Sem.run_bind,Sem.run_pure,Result.andThen_ok,List.map_toArray,List.map_cons,List.map_nil,e1]
 simp [Builtin.len_,run_underlying hu,MapKept.run_getObj_map m1,goInt,m2]
theorem OZ (M:List (Value × Value)):N6 (M.map fun p=>(p.1,C.v p.2))=false:=by
 cases M <;> rfl
theorem Kp {s:Ks} {key k:Value} {c:C}:∀ (l:List (Value × C)) (i:Nat),Bf s key (l++[(k,c)]) i=match Bf s key l i with | some none=>(match Bx s key k with | some true=>some (some (i+l.length,c)) | some false=>some none | none=>none) | r=>r:=by
 intro l
 induction l with
 | nil=>
  intro i
  simp only [List.nil_append,Bf,List.length_nil,Nat.add_zero]
  cases Bx s key k with
  | none=>rfl
  | some b=>cases b <;> rfl
 | cons p r ih=>
  intro i
  obtain ⟨k1,c1⟩:=p
  simp only [List.cons_append,Bf]
  cases Bx s key k1 with
  | none=>rfl
  | some b=>
   cases b with
   | true=>rfl
   | false=>
    simp only
    rw [ih (i+1),List.length_cons,show i+1+r.length=i+(r.length+1) from by omega]
section
variable {α : Type} [DecidableEq α]
def QS (ky:List Value) (g:Nat->α):Prop:=∀ a b,a<ky.length->b<ky.length->Bx .ks (ky.getD a (.int .i64 0)) (ky.getD b (.int .i64 0))=some (decide (g a=g b))
def VG (ky:List Value) (g:Nat->α):Nat->List (Value × C)
 | 0=>[]
 | k+1=>match (List.range k).find? (fun t=>decide (g t=g k)) with
  | some _=>VG ky g k
  | none=>VG ky g k++[(ky.getD k (.int .i64 0),.v (.int .i64 (UW g k).2))]
theorem DR {ky:List Value} {g:Nat->α} {k t:Nat} (h:(List.range k).find? (fun t=>decide (g t=g k))=some t):VG ky g (k+1)=VG ky g k:=by rw [VG,h]
theorem DS {ky:List Value} {g:Nat->α} {k:Nat} (h:(List.range k).find? (fun t=>decide (g t=g k))=none):VG ky g (k+1)=VG ky g k++[(ky.getD k (.int .i64 0),.v (.int .i64 (UW g k).2))]:=by rw [VG,h]
theorem RB (ky:List Value) (g:Nat->α) (k:Nat):(VG ky g k).all (fun p=>p.2.pl)=true:=by
 induction k with
 | zero=>rfl
 | succ k ih=>
  cases h:(List.range k).find? (fun t=>decide (g t=g k)) with
  | some t=>rw [DR h];exact ih
  | none=>rw [DS h,List.all_append,ih];rfl
theorem Ma (ky:List Value) (g:Nat->α) (k:Nat):(VG ky g k).length=(UW g k).2:=by
 induction k with
 | zero=>rfl
 | succ k ih=>
  cases h:(List.range k).find? (fun t=>decide (g t=g k)) with
  | some t=>rw [DR h,DN h];exact ih
  | none=>rw [DS h,DO h,List.length_append,ih];rfl
theorem GC (ky:List Value) (g:Nat->α) (k:Nat):∃ M:List (Value × Value),VG ky g k=M.map fun p=>(p.1,C.v p.2):=by
 induction k with
 | zero=>exact ⟨[],rfl⟩
 | succ k ih=>
  obtain ⟨M,hM⟩:=ih
  cases h:(List.range k).find? (fun t=>decide (g t=g k)) with
  | some t=>exact ⟨M,by rw [DR h,hM]⟩
  | none=>exact ⟨M++[(ky.getD k (.int .i64 0),.int .i64 (UW g k).2)],by rw [DS h,hM];simp⟩
theorem O0 {ky:List Value} {g:Nat->α} (h:QS ky g) {s:Nat} (hs:s<ky.length):∀ k,k<=ky.length->(∃ t,t<k/\g t=g s/\∃ j,Bf .ks (ky.getD s (.int .i64 0)) (VG ky g k) 0=some (some (j,.v (.int .i64 ((UW g k).1.getD t 0)))))\/((∀ t,t<k->g t ≠ g s)/\Bf .ks (ky.getD s (.int .i64 0)) (VG ky g k) 0=some none):=by
 intro k
 induction k with
 | zero=>intro _;exact .inr ⟨fun t ht=>by omega,rfl⟩
 | succ k ih=>
  intro hk
  have hkl:k<ky.length:=hk
  have hlen:=(Ch g k).len
  cases hf:(List.range k).find? (fun t=>decide (g t=g k)) with
  | some t0=>
   have h2:=List.find?_range_eq_some.1 hf
   have h3:t0<k:=by simpa using h2.2.1
   have h4:g t0=g k:=by simpa using h2.1
   rw [DR hf,DN hf]
   rcases ih (by omega) with ⟨t,a1,a2,j,a3⟩ | ⟨a1,a2⟩
   ·refine .inl ⟨t,by omega,a2,j,?_⟩
    rw [a3,Cg (by omega)]
   refine .inr ⟨fun t ht=>?_,a2⟩
   rcases Nat.lt_or_ge t k with b | b
   ·exact a1 t b
   have:t=k:=by omega
   subst this
   rw [<- h4];exact a1 t0 h3
  | none=>
   rw [DS hf,DO hf,Kp,h s k hs hkl]
   rcases ih (by omega) with ⟨t,a1,a2,j,a3⟩ | ⟨a1,a2⟩
   ·refine .inl ⟨t,by omega,a2,j,?_⟩
    rw [a3,Cg (by omega)]
   rw [a2]
   by_cases e:g s=g k
   ·refine .inl ⟨k,by omega,e.symm,0+(VG ky g k).length,?_⟩
    rw [gEg e,CQ hlen.symm]
   refine .inr ⟨fun t ht=>?_,by rw [decide_eq_false e]⟩
   rcases Nat.lt_or_ge t k with b | b
   ·exact a1 t b
   have:t=k:=by omega
   subst this
   exact Ne.symm e
theorem Q8 {ky:List Value} {g:Nat->α} (h:QS ky g) {s:Nat} (hs:s<ky.length):Ek .ks (ky.getD s (.int .i64 0))=true:=by
 unfold Ek
 rw [h s s hs hs]
def VH (ky:List Value):List C:=ky.map C.v
theorem Fg (ky:List Value):(VH ky).length=ky.length:=by simp [VH]
theorem Q9 {ky:List Value} {s:Nat} (h:s<ky.length):(VH ky)[s]?=some (.v (ky.getD s (.int .i64 0))):=by simp [VH,gE2,h]
theorem Ee (ky:List Value) (f:List Nat):(VH ky).map (C.ren f)=VH ky:=by simp [VH,C.ren,Function.comp_def]
theorem Iu (ky:List Value) (s:Nat) (v:Value):(VH ky).set s (.v v)=VH (ky.set s v):=by simp [VH,List.map_set]
end
def Su (L:List Int):Prop:=∀ x∈L,0<=x/\x<2147483648
theorem Qa {x y:List Int} (hx:Su x) (hy:Su y):Bx .ks (Is x) (Is y)=some (decide (x=y)):=by
 show some _=some _
 congr 1
 rw [Bool.eq_iff_iff,decide_eq_true_iff,MapKept.bytes_beq]
 exact ⟨fun h=>NZ hx hy (by unfold Is;rw [h]),fun h=>by rw [h]⟩
def VI (kd ke:Value) (B:List Bool) (n k:Nat):List Value:=(List.range n).map fun s=>if s<k/\B.getD s false=true then kd else ke
theorem GD (kd ke:Value) (B:List Bool) (n k:Nat):(VI kd ke B n k).length=n:=by simp [VI]
theorem O3 (kd ke:Value) (B:List Bool) (n:Nat):VI kd ke B n 0=List.replicate n ke:=by
 refine List.ext_getElem (by simp [VI]) fun i h1 h2=>?_
 simp [VI]
theorem O4 {kd ke:Value} {B:List Bool} {n k:Nat} (h:B.getD k false=true):(VI kd ke B n k).set k kd=VI kd ke B n (k+1):=by
 refine List.ext_getElem (by simp [VI]) fun i h1 h2=>?_
 rw [List.getElem_set]
 simp only [VI,List.getElem_map,List.getElem_range]
 by_cases e:k=i
 ·subst e;rw [if_pos rfl,if_pos ⟨by omega,h⟩]
 rw [if_neg e]
 by_cases hb:B.getD i false=true
 rotate_left
 ·rw [if_neg (fun h=>hb h.2),if_neg (fun h=>hb h.2)]
 by_cases hk:i<k
 ·rw [if_pos ⟨hk,hb⟩,if_pos ⟨by omega,hb⟩]
 rw [if_neg (fun h=>hk h.1),if_neg (fun h=>by have:=h.1;omega)]
theorem Mb {kd ke:Value} {B:List Bool} {n k:Nat} (h:B.getD k false=false):VI kd ke B n (k+1)=VI kd ke B n k:=by
 refine List.map_congr_left fun i _=>?_
 by_cases hb:B.getD i false=true
 rotate_left
 ·rw [if_neg (fun h=>hb h.2),if_neg (fun h=>hb h.2)]
 by_cases e:i=k
 ·subst e;rw [h] at hb;cases hb
 by_cases hk:i<k
 ·rw [if_pos ⟨by omega,hb⟩,if_pos ⟨hk,hb⟩]
 rw [if_neg (fun h=>by have:=h.1;omega),if_neg (fun h=>hk h.1)]
theorem RC {kd ke:Value} (h1:Bx .ks kd kd=some true) (h2:Bx .ks ke ke=some true) (h3:Bx .ks kd ke=some false) (h4:Bx .ks ke kd=some false) (B:List Bool) (n:Nat):QS (VI kd ke B n n) (fun s=>B.getD s false):=by
 intro a b ha hb
 rw [GD] at ha hb
 have g:∀ s,s<n->(VI kd ke B n n).getD s (.int .i64 0)=if B.getD s false=true then kd else ke:=fun s hs=>by
  rw [gE2,gE1 (by rw [GD];exact hs),Option.getD_some]
  simp only [VI,List.getElem_map,List.getElem_range,hs,true_and]
 rw [g a ha,g b hb]
 show _=some (decide (B.getD a false=B.getD b false))
 cases B.getD a false <;> cases B.getD b false <;> simp [h1,h2,h3,h4]
def At (w:Nat):List Int:=((List.range 64).filter fun i=>w.testBit i).map Int.ofNat
def WS (w:Nat) (p:Nat->Prop):Prop:=w<2 ^ 64/\∀ i,i<64->(w.testBit i=true↔p i)
theorem WS.lt {w:Nat} {p:Nat->Prop} (h:WS w p):w<18446744073709551616:=h.1
theorem RD {w i:Nat} (h:w<2 ^ 64) (hi:64<=i):w.testBit i=false:=Nat.testBit_lt_two_pow (Nat.lt_of_lt_of_le h (Nat.pow_le_pow_right (by decide) hi))
theorem P0 {v w:Nat} (hv:v<2 ^ 64) (hw:w<2 ^ 64) (h:∀ i,i<64->v.testBit i=w.testBit i):v=w:=by
 refine Nat.eq_of_testBit_eq fun i=>?_
 rcases Nat.lt_or_ge i 64 with hi | hi
 ·exact h i hi
 rw [RD hv hi,RD hw hi]
theorem WS.uniq {v w:Nat} {p q:Nat->Prop} (hv:WS v p) (hw:WS w q) (h:∀ i,i<64->(p i↔q i)):v=w:=by
 refine P0 hv.1 hw.1 fun i hi=>?_
 rw [Bool.eq_iff_iff,hv.2 i hi,hw.2 i hi,h i hi]
theorem Kr:At 0=[]:=by
 unfold At
 rw [List.filter_eq_nil_iff.2 (fun i _=>by simp)]
 rfl
theorem Cb (w:Nat):(At w).length<=64:=by
 unfold At
 rw [List.length_map]
 exact Nat.le_trans (List.length_filter_le _ _) (by simp)
theorem Cv {w:Nat} {x:Int}:x∈At w↔∃ i,i<64/\w.testBit i=true/\x=(i:Int):=by
 unfold At
 simp only [List.mem_map,List.mem_filter,List.mem_range]
 constructor
 ·rintro ⟨i,⟨h1,h2⟩,rfl⟩;exact ⟨i,h1,h2,rfl⟩
 rintro ⟨i,h1,h2,rfl⟩;exact ⟨i,⟨h1,h2⟩,rfl⟩
theorem JE {w:Nat}:∀ x∈At w,0<=x/\x<64:=fun x hx=>by
 obtain ⟨i,h1,_,rfl⟩:=Cv.1 hx
 omega
theorem HF {v w:Nat} (hv:v<2 ^ 64) (hw:w<2 ^ 64) (h:At v=At w):v=w:=by
 refine P0 hv hw fun i hi=>?_
 have key:((i:Int)∈At v)↔((i:Int)∈At w):=by rw [h]
 rw [Cv,Cv] at key
 have e:∀ u:Nat,(∃ j,j<64/\u.testBit j=true/\(i:Int)=(j:Int))↔u.testBit i=true:=fun u=>by
  constructor
  rotate_left
  ·intro h2;exact ⟨i,hi,h2,rfl⟩
  rintro ⟨j,_,h2,h3⟩
  have:i=j:=by omega
  rw [this];exact h2
 rw [e,e] at key
 rw [Bool.eq_iff_iff];exact key
theorem HG (w:Nat):Ur (At w):=by
 unfold At Ur
 rw [List.pairwise_map]
 refine List.Pairwise.filter _ ?_
 refine List.pairwise_lt_range.imp fun {a b} h=>?_
 simp only [Int.ofNat_eq_natCast];omega
theorem JF (k m i:Nat):(2 ^ k*(2*m+1)).testBit i=if i<k then false else if i=k then true else (2*m).testBit (i - k):=by
 rw [Nat.testBit_two_pow_mul]
 by_cases h:i<k
 ·rw [if_pos h];simp [show ¬ k<=i by omega]
 rw [if_neg h]
 by_cases e:i=k
 ·subst e;rw [if_pos rfl];simp [Nat.testBit_zero]
 rw [if_neg e]
 obtain ⟨d,hd⟩:∃ d,i - k=d+1:=⟨i - k - 1,by omega⟩
 rw [hd,Nat.testBit_succ,Nat.testBit_succ]
 simp [show k<=i by omega,show (2*m+1) / 2=m by omega]
theorem GE (k m i:Nat):(2 ^ k*(2*m)).testBit i=if i<k then false else if i=k then false else (2*m).testBit (i - k):=by
 rw [Nat.testBit_two_pow_mul]
 by_cases h:i<k
 ·rw [if_pos h];simp [show ¬ k<=i by omega]
 rw [if_neg h]
 by_cases e:i=k
 ·subst e;rw [if_pos rfl];simp [Nat.testBit_zero]
 rw [if_neg e];simp [show k<=i by omega]
theorem O5 (k m:Nat):(2 ^ k*(2*m+1)) &&& (2 ^ k*(2*m+1) - 1)=2 ^ k*(2*m):=by
 have hp:0<2 ^ k:=Nat.two_pow_pos k
 have e1:2 ^ k*(2*m+1) - 1=2 ^ k*(2*m)+(2 ^ k - 1):=by
  rw [Nat.mul_add,Nat.mul_one];omega
 refine Nat.eq_of_testBit_eq fun i=>?_
 rw [Nat.testBit_and,JF,e1,Nat.testBit_two_pow_mul_add _ (by omega),GE]
 by_cases h:i<k
 ·rw [if_pos h,if_pos h,if_pos h];rfl
 rw [if_neg h,if_neg h,if_neg h]
 by_cases e:i=k
 ·subst e;rw [if_pos rfl,if_pos rfl];simp [Nat.testBit_zero]
 rw [if_neg e,if_neg e];simp
theorem Mc {w:Nat} (h0:0<w) (h:w<2 ^ 64):Lib.ctz 64 w<64/\(w &&& (w - 1))<w/\At w=(Lib.ctz 64 w:Int) :: At (w &&& (w - 1)):=by
 obtain ⟨m,hm,hk⟩:=Lib.ctzFrom_spec 64 w h0 h
 have hc:Lib.ctz 64 w=Lib.ctzFrom 64 w:=by unfold Lib.ctz;rw [if_neg (by omega)]
 rw [hc]
 generalize Lib.ctzFrom 64 w=k at *
 have ha:(w &&& (w - 1))=2 ^ k*(2*m):=by rw [hm];exact O5 k m
 have hp:0<2 ^ k:=Nat.two_pow_pos k
 have hlt:2 ^ k*(2*m)<w:=by rw [hm,Nat.mul_add];omega
 refine ⟨hk,by rw [ha];exact hlt,?_⟩
 rw [ha]
 refine I7 (HG _) ?_ fun x=>?_
 ·unfold Ur
  refine List.pairwise_cons.2 ⟨fun x hx=>?_,HG _⟩
  obtain ⟨i,h1,h2,rfl⟩:=Cv.1 hx
  rw [GE] at h2
  by_cases h:i<k
  ·rw [if_pos h] at h2;cases h2
  rw [if_neg h] at h2
  by_cases e:i=k
  ·rw [if_pos e] at h2;cases h2
  omega
 rw [List.mem_cons,Cv,Cv]
 constructor
 ·rintro ⟨i,h1,h2,rfl⟩
  rw [hm,JF] at h2
  by_cases h:i<k
  ·rw [if_pos h] at h2;cases h2
  rw [if_neg h] at h2
  by_cases e:i=k
  ·exact .inl (by rw [e])
  rw [if_neg e] at h2
  exact .inr ⟨i,h1,by rw [GE,if_neg h,if_neg e];exact h2,rfl⟩
 rintro (rfl | ⟨i,h1,h2,rfl⟩)
 ·exact ⟨k,hk,by rw [hm,JF,if_neg (by omega),if_pos rfl],rfl⟩
 rw [GE] at h2
 by_cases h:i<k
 ·rw [if_pos h] at h2;cases h2
 rw [if_neg h] at h2
 by_cases e:i=k
 ·rw [if_pos e] at h2;cases h2
 rw [if_neg e] at h2
 exact ⟨i,h1,by rw [hm,JF,if_neg h,if_neg e];exact h2,rfl⟩
theorem RE {v w:Nat} (hv:v<2 ^ 64) (hw:w<2 ^ 64):(v ||| w)<2 ^ 64:=Nat.or_lt_two_pow hv hw
theorem Qb {v w i:Nat}:(v ||| w).testBit i=true↔v.testBit i=true\/w.testBit i=true:=by rw [Nat.testBit_or];simp
theorem RF {k i:Nat}:(2 ^ k).testBit i=true↔k=i:=by rw [Nat.testBit_two_pow];simp
theorem JG {k:Nat} (h:k<64):2 ^ k<2 ^ 64:=Nat.pow_lt_pow_right (by decide) h
def EG (x:Int) (t:Nat) (V:List (Int × Nat)):List Int:=x :: ((At t).length:Int) :: (At t++V.flatMap fun p=>p.1 :: ((At p.2).length:Int) :: At p.2)
theorem Md {α:Type} {a b c d:List α} (h:a++b=c++d) (hl:a.length=c.length):a=c/\b=d:=List.append_inj h hl
theorem JH:∀ {V W:List (Int × Nat)},(∀ p∈V,p.2<2 ^ 64)->(∀ p∈W,p.2<2 ^ 64)->(V.flatMap fun p=>p.1 :: ((At p.2).length:Int) :: At p.2)=(W.flatMap fun p=>p.1 :: ((At p.2).length:Int) :: At p.2)->V=W
 | [],[],_,_,_=>rfl
 | [],q :: W,_,_,h=>by simp at h
 | p :: V,[],_,_,h=>by simp at h
 | p :: V,q :: W,hv,hw,h=>by
  simp only [List.flatMap_cons,List.cons_append,List.cons.injEq] at h
  obtain ⟨h1,h2,h3⟩:=h
  obtain ⟨h4,h5⟩:=Md h3 (by omega)
  have h6:=HF (hv p List.mem_cons_self) (hw q List.mem_cons_self) h4
  have h7:=JH (fun p hp=>hv p (gEf _ hp)) (fun p hp=>hw p (gEf _ hp)) h5
  rw [h7]
  congr 1
  exact Prod.ext h1 h6
theorem O6 {x y:Int} {s t:Nat} {V W:List (Int × Nat)} (hs:s<2 ^ 64) (ht:t<2 ^ 64) (hV:∀ p∈V,p.2<2 ^ 64) (hW:∀ p∈W,p.2<2 ^ 64) (h:EG x s V=EG y t W):x=y/\s=t/\V=W:=by
 unfold EG at h
 simp only [List.cons.injEq] at h
 obtain ⟨h1,h2,h3⟩:=h
 obtain ⟨h4,h5⟩:=Md h3 (by omega)
 exact ⟨h1,HF hs ht h4,JH hV hW h5⟩
def RT (X:List (List Ar)) (cl:List Int) (c i:Nat):Prop:=∃ u,u<X.length/\Rc (Uy true X) c u/\cl.getD u 0=(i:Int)
def RV (X:List (List Ar)) (cl:List Int) (c:Nat) (e:Int) (i:Nat):Prop:=e ≠ 0/\∃ u,u<X.length/\Rc (Uy true X) c u/\∃ a∈X.getD u [],a.1=e/\RT X cl a.2.toNat i
theorem Qc {n:Nat} {B:List Bool} {x:Int}:x∈rL n B↔∃ i,i<n/\Dr B i=true/\x=(i:Int):=by
 unfold rL
 simp only [List.mem_map,List.mem_filter,List.mem_range]
 constructor
 ·rintro ⟨i,⟨h1,h2⟩,rfl⟩;exact ⟨i,h1,h2,rfl⟩
 rintro ⟨i,h1,h2,rfl⟩;exact ⟨i,⟨h1,h2⟩,rfl⟩
theorem Me {R:List (List Ar)} {s:Nat} {e x:Int}:x∈Vo R s e↔∃ u,u<R.length/\WA R s e u/\x=(u:Int):=by
 obtain ⟨B,_,h2,h3⟩:=Rv R s e
 rw [h2,Qc]
 constructor
 ·rintro ⟨i,h4,h5,h6⟩;exact ⟨i,h4,(h3 i h4).1 h5,h6⟩
 rintro ⟨i,h4,h5,h6⟩;exact ⟨i,h4,(h3 i h4).2 h5,h6⟩
theorem Em {X:List (List Ar)} (hv:Bg X=true) {u:Nat} (hu:u<X.length) {a:Ar} (ha:a∈X.getD u []):0<=a.1/\a.1<=1025/\0<=a.2/\a.2.toNat<X.length:=by
 have hlo:Br X=true:=gEg (gE4 hv).1
 rw [gE2,gE1 hu,Option.getD_some] at ha
 have:=(gE4 hlo).2.2.2 _ (gE6 hu) a ha
 exact ⟨this.1,by omega,this.2.2.1,by omega⟩
theorem Cj {X:List (List Ar)} (hv:Bg X=true) {s:Nat} (hs:s<X.length) {a:Ar}:a∈(BE X).getD s []↔∃ u,u<X.length/\WA X s a.1 u/\a.2=(u:Int):=by
 have hlo:Br X=true:=gEg (gE4 hv).1
 have hE:=Ce true hlo
 have hg:(BE X).getD s []=Vr X (V3 X X.length) s:=by simp [BE,Vs,gE2,hs]
 have hev:=Ju (R:=X) (fun r hr a ha=>by have:=(gE4 hlo).2.2.2 r hr a ha;omega) X.length (Nat.le_refl _)
 rw [List.take_length] at hev
 rw [hg]
 unfold Vr Vq
 rw [List.take_length,List.mem_flatMap]
 constructor
 ·rintro ⟨e,he,h⟩
  obtain ⟨x,hx,rfl⟩:=List.mem_map.1 h
  exact Me.1 hx
 rintro ⟨u,hu,h1,h2⟩
 have hmem:a.1∈V3 X X.length:=by
  rcases h1 with ⟨h,_⟩ | ⟨_,t,ht,b,hb,h4,_⟩
  ·rw [h];exact hev.2.2.1
  have htl:=ht.lt hs hE
  rw [gE2,gE1 htl,Option.getD_some] at hb
  rw [<- h4]
  exact hev.2.2.2 _ (gE6 htl) b hb
 exact ⟨a.1,hmem,List.mem_map.2 ⟨a.2,Me.2 ⟨u,hu,h1,h2⟩,rfl⟩⟩
theorem Ef {X:List (List Ar)} (hv:Bg X=true) {cl:List Int} {s:Nat} (hs:s<X.length) (i:Nat):((0:Int),(i:Int))∈UX (BE X) cl s↔RT X cl s i:=by
 rw [CS]
 constructor
 rotate_left
 ·rintro ⟨u,hu,h1,h2⟩
  exact ⟨(0,(u:Int)),(Cj hv hs).2 ⟨u,hu,.inl ⟨rfl,h1⟩,rfl⟩,by show (_,_)=(_,cl.getD ((u:Int)).toNat 0);rw [Int.toNat_natCast,h2]⟩
 rintro ⟨a,ha,e⟩
 obtain ⟨u,hu,h1,h2⟩:=(Cj hv hs).1 ha
 simp only [Prod.mk.injEq] at e
 obtain ⟨e1,e2⟩:=e
 rcases h1 with ⟨_,h1⟩ | ⟨h1,_⟩
 rotate_left
 ·exact absurd e1.symm h1
 refine ⟨u,hu,h1,?_⟩
 rw [e2,h2];simp
theorem Eg {X:List (List Ar)} (hv:Bg X=true) {cl:List Int} {s:Nat} (hs:s<X.length) {e:Int} (he:e ≠ 0) (i:Nat):(e,(i:Int))∈UX (BE X) cl s↔RV X cl s e i:=by
 have hlo:Br X=true:=gEg (gE4 hv).1
 have hE:=Ce true hlo
 rw [CS]
 constructor
 rotate_left
 ·rintro ⟨_,t,htl,ht,b,hb,h3,u,hu,h4,h5⟩
  exact ⟨(e,(u:Int)),(Cj hv hs).2 ⟨u,hu,.inr ⟨he,t,ht,b,hb,h3,h4⟩,rfl⟩,by show (_,_)=(_,cl.getD ((u:Int)).toNat 0);rw [Int.toNat_natCast,h5]⟩
 rintro ⟨a,ha,e0⟩
 obtain ⟨u,hu,h1,h2⟩:=(Cj hv hs).1 ha
 simp only [Prod.mk.injEq] at e0
 obtain ⟨e1,e2⟩:=e0
 rcases h1 with ⟨h1,_⟩ | ⟨h1,t,ht,b,hb,h3,h4⟩
 ·exact absurd (e1.trans h1) he
 exact ⟨he,t,ht.lt hs hE,ht,b,hb,h3.trans e1.symm,u,hu,h4,by rw [e2,h2];simp⟩
theorem Mf {X:List (List Ar)} (hv:Bg X=true) {cl:List Int} (hc:Nrm X.length cl) {s:Nat} (hs:s<X.length) {x:Ar} (hx:x∈UX (BE X) cl s):∃ i:Nat,i<X.length/\x.2=(i:Int):=by
 obtain ⟨a,ha,rfl⟩:=CS.1 hx
 obtain ⟨u,hu,_,h2⟩:=(Cj hv hs).1 ha
 have hcl:=hc.len
 have hm:cl.getD u 0∈cl:=by rw [gE2,gE1 (by omega)];exact gE6 _
 have:=hc.rng _ hm
 simp only [h2,Int.toNat_natCast]
 exact ⟨(cl.getD u 0).toNat,by omega,by omega⟩
structure KeyOf (X:List (List Ar)) (cl:List Int) (s:Nat) (L:List Int):Prop where
 ex:∃ (t:Nat) (V:List (Int × Nat)),L=EG (cl.getD s 0) t V/\WS t (RT X cl s)/\Ur (V.map (·.1))/\(∀ p∈V,(0<=p.1/\p.1<=1025)/\WS p.2 (RV X cl s p.1)/\∃ i,RV X cl s p.1 i)/\∀ e i,RV X cl s e i->e∈V.map (·.1)
theorem Sv {X:List (List Ar)} (_hv:Bg X=true) {cl:List Int} (hc:Nrm X.length cl) {s:Nat} {e:Int} {i:Nat} (h:RV X cl s e i):i<X.length:=by
 obtain ⟨_,_,_,_,_,_,_,u,hu,_,h2⟩:=h
 have hcl:=hc.len
 have hm:cl.getD u 0∈cl:=by rw [gE2,gE1 (by omega)];exact gE6 _
 have:=hc.rng _ hm
 omega
theorem KeyOf.iff {X:List (List Ar)} (hv:Bg X=true) (hn:X.length<=64) {cl:List Int} (hc:Nrm X.length cl) {s t:Nat} (hs:s<X.length) (ht:t<X.length) {L M:List Int} (h1:KeyOf X cl s L) (h2:KeyOf X cl t M):L=M↔UY (BE X) cl s=UY (BE X) cl t:=by
 obtain ⟨τ,V,rfl,a1,a2,a3,a4⟩:=h1.ex
 obtain ⟨σ,W,rfl,b1,b2,b3,b4⟩:=h2.ex
 unfold UY
 constructor
 rotate_left
 ·intro h
  simp only [Prod.mk.injEq] at h
  obtain ⟨c1,c2⟩:=h
  have et:∀ i,RT X cl s i↔RT X cl t i:=fun i=>by rw [<- Ef hv hs,<- Ef hv ht,c2]
  have ev:∀ e i,RV X cl s e i↔RV X cl t e i:=fun e i=>by
   by_cases he:e=0
   rotate_left
   ·rw [<- Eg hv hs he,<- Eg hv ht he,c2]
   constructor
   ·rintro ⟨h,_⟩;exact absurd he h
   rintro ⟨h,_⟩;exact absurd he h
  have e1:τ=σ:=a1.uniq b1 fun i _=>et i
  have e2:V.map (·.1)=W.map (·.1):=by
   refine I7 a2 b2 fun e=>?_
   constructor
   ·intro he
    obtain ⟨p,hp,rfl⟩:=List.mem_map.1 he
    obtain ⟨i,hi⟩:=(a3 p hp).2.2
    exact b4 _ i ((ev _ i).1 hi)
   intro he
   obtain ⟨p,hp,rfl⟩:=List.mem_map.1 he
   obtain ⟨i,hi⟩:=(b3 p hp).2.2
   exact a4 _ i ((ev _ i).2 hi)
  have e3:V=W:=by
   have hl:V.length=W.length:=by have:=congrArg List.length e2;simpa using this
   refine List.ext_getElem hl fun j h1 h2=>?_
   have hj:V[j].1=W[j].1:=by
    have h3:(V.map (·.1))[j]?=(W.map (·.1))[j]?:=by rw [e2]
    simpa [h1,h2] using h3
   refine Prod.ext hj ((a3 _ (gE6 h1)).2.1.uniq (b3 _ (gE6 h2)).2.1 fun i _=>?_)
   rw [hj];exact ev _ i
  rw [c1,e1,e3]
 intro h
 obtain ⟨c1,c2,c3⟩:=O6 a1.1 b1.1 (fun p hp=>(a3 p hp).2.1.1) (fun p hp=>(b3 p hp).2.1.1) h
 subst c2;subst c3
 refine Prod.ext c1 ?_
 refine BN (AD _) (AD _) fun x=>?_
 show x∈UX (BE X) cl s↔x∈UX (BE X) cl t
 have key:∀ u,u<X.length->u=s\/u=t->(x∈UX (BE X) cl u↔∃ i:Nat,i<64/\x.2=(i:Int)/\((x.1=0/\τ.testBit i=true)\/(x.1 ≠ 0/\∃ w,(x.1,w)∈V/\w.testBit i=true))):=by
  intro u hu hst
  have wt:WS τ (RT X cl u):=by rcases hst with rfl | rfl <;> assumption
  have wv:∀ p∈V,WS p.2 (RV X cl u p.1):=fun p hp=>by
   rcases hst with rfl | rfl
   ·exact (a3 p hp).2.1
   exact (b3 p hp).2.1
  have wc:∀ e i,RV X cl u e i->e∈V.map (·.1):=by rcases hst with rfl | rfl <;> assumption
  obtain ⟨e,y⟩:=x
  constructor
  rotate_left
  ·rintro ⟨i,hi,hy,h⟩
   simp only at hy h
   subst hy
   rcases h with ⟨rfl,h⟩ | ⟨he,w,hw,h⟩
   ·exact (Ef hv hu i).2 ((wt.2 i hi).1 h)
   exact (Eg hv hu he i).2 (((wv _ hw).2 i hi).1 h)
  intro hx
  obtain ⟨i,hi,hy⟩:=Mf hv hc hu hx
  simp only at hy ⊢
  subst hy
  refine ⟨i,by omega,rfl,?_⟩
  by_cases he:e=0
  ·subst he
   exact .inl ⟨rfl,(wt.2 i (by omega)).2 ((Ef hv hu i).1 hx)⟩
  have hr:=(Eg hv hu he i).1 hx
  obtain ⟨p,hp,e1⟩:=List.mem_map.1 (wc e i hr)
  refine .inr ⟨he,p.2,?_,((wv p hp).2 i (by omega)).2 (by rw [e1];exact hr)⟩
  rw [<- e1];exact hp
 rw [key s hs (.inl rfl),key t ht (.inr rfl)]
def WkC (R:List (List Ar)) (c:List Int):Prop:=∃ B,DvL R B/\FxS (BE R) (Vb B R.length) c
end Go.Proofs.YtjijjfkalheokaaDoor
