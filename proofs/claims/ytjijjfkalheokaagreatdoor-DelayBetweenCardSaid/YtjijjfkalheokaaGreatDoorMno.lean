/- Lemmas. -/
import Derived.Test.YtjijjfkalheokaaGreatDoorTl3
import Derived.Test.YtjijjfkalheokaaGreatDoorZk
import Derived.Test.YtjijjfkalheokaaGreatDoorW03
import Derived.Test.YtjijjfkalheokaaGreatDoorG39
import Derived.Test.YtjijjfkalheokaaGreatDoorMD
import Derived.Test.YtjijjfkalheokaaGreatDoorMF
import Derived.Test.YtjijjfkalheokaaGreatDoorG37
import Derived.Test.YtjijjfkalheokaaGreatDoorG59
import Derived.Test.YtjijjfkalheokaaGreatDoorMit
namespace Go.Proofs.YtjijjfkalheokaaGreatDoor
set_option linter.unusedVariables false
set_option linter.unusedSimpArgs false
open Go.RowKit
set_option maxRecDepth 100000

theorem HF {s:ST} (i j e k:Nat) {r:Row} (hi:s.hp[i]?=some (.r r)) (hj:r.cells[j]?=some (.v (.slice none 0 0))) (hk:0<k):Le s { s with tm:=Fi [i] s.tm,hp:=s.hp.set i (.r { r with cells:=r.cells.set j (.o (k,e) []) })++[.d] }:=by
 have hil:=(List.getElem?_eq_some_iff.1 hi).1
 have hjl:=(List.getElem?_eq_some_iff.1 hj).1
 have hne:i ≠ s.hp.length:=by omega
 have a:=Nl (s:=s) e k
 have b:=Jj (s:={ s with hp:=s.hp++[Ob.r ⟨e,k,true,[]⟩] }) i j s.hp.length (r:=r) (e0:=e) (k0:=k) hne (by simp only;rw [gEa hil];exact hi) hj (by simp)
 have c:=AR (s:={ s with hp:=(s.hp++[Ob.r ⟨e,k,true,[]⟩]).set i (Ob.r { r with cells:=r.cells.set j (.s s.hp.length 0) }) }) i j s.hp.length 0 (r:=⟨e,k,true,[]⟩) (ri:={ r with cells:=r.cells.set j (.s s.hp.length 0) }) (ts:=[]) hne (by simp only;rw [gEc (by simp;omega)]) (by simp only;rw [gEc hjl]) (by simp only;rw [gE5 hne];simp) rfl hk (by simp) trivial
 have h:=(a.trans b).trans c
 have e1:((((s.hp++[Ob.r ⟨e,k,true,[]⟩]).set i (.r { r with cells:=r.cells.set j (.s s.hp.length 0) })).set i (.r { r with cells:=(r.cells.set j (.s s.hp.length 0)).set j (.o (k,e) []) })).set s.hp.length .d)=s.hp.set i (.r { r with cells:=r.cells.set j (.o (k,e) []) })++[.d]:=by
  rw [List.set_set,List.set_set,List.set_append_left _ _ hil,List.set_append_right _ _ (by simp)]
  simp
 simp only at h
 rw [e1] at h
 exact h
attribute [local go_sem] lga C.pl C.one
def L6 (Ls:List (List (List Ar))):List (List Ar):=Ls.foldl Eo []
theorem IG (Ls:List (List (List Ar))) (R:List (List Ar)):L6 (Ls++[R])=Eo (L6 Ls) R:=by simp [L6]
def Ya (Ls:List (List (List Ar))):List Tr:=Ls.map fun R=>.l 1 (Ah R)
theorem O7 (Ls:List (List (List Ar))):(Ya Ls).length=Ls.length:=by simp [Ya]
theorem SA {Ls:List (List (List Ar))} {k:Nat} {R:List (List Ar)} (h:Ls[k]?=some R):(Ya Ls)[k]?=some (.l 1 (Ah R)):=by simp [Ya,h]
theorem Uo {Ls:List (List (List Ar))} {k:Nat} {R:List (List Ar)} (h:Ls[k]?=some R):((Ya Ls).drop k).take 1=[.l 1 (Ah R)]:=by
 obtain ⟨hk,e⟩:=List.getElem?_eq_some_iff.1 (SA h)
 rw [List.drop_eq_getElem_cons hk,e];rfl
def Yb (A:List (List Ar)) (cm:List Int) (dv:List Bool):Row:=⟨92,5,false,[.o (1,42) (Ah A),.o (1,3) (Ab cm),.v (.slice none 0 0),.v (.slice none 0 0),.o (1,4) (X6 dv)]⟩
theorem O8 (A R:List (List Ar)):Bw (Eo A R)=Bw A+Bw R:=by
 unfold Bw Eo XF
 rw [List.map_append,List.sum_append,List.map_map]
 have:(List.length ∘ XE A.length)=List.length:=by funext r;exact CO _ r
 rw [this]
def Yc (n:Nat) (row:List Ar) (i:Nat):List Ar:=(XE n row).take i++row.drop i
theorem SB (n:Nat) (row:List Ar) (i:Nat):(Yc n row i).length=row.length:=by simp [Yc,CO];omega
theorem Qm (n:Nat) (row:List Ar):Yc n row 0=row:=by simp [Yc]
theorem Qn (n:Nat) (row:List Ar):Yc n row row.length=XE n row:=by
 unfold Yc
 rw [gE7 (by rw [CO];exact Nat.le_refl _),List.drop_length,List.append_nil]
theorem SC {n:Nat} {row:List Ar} {i:Nat} (h:i<row.length):(Yc n row i)[i]?=some row[i]:=by
 unfold Yc
 rw [gEb (by rw [List.length_take,CO];omega),List.length_take,CO,Nat.min_eq_left (by omega),Nat.sub_self,List.getElem?_drop]
 simp [h]
theorem SD {n:Nat} {row:List Ar} {i:Nat} (h:i<row.length):(Yc n row i).set i (row[i].1,row[i].2+(n:Int))=Yc n row (i+1):=by
 unfold Yc
 rw [List.set_append_right _ _ (by rw [List.length_take,CO];omega),List.length_take,CO,Nat.min_eq_left (by omega),Nat.sub_self,List.drop_eq_getElem_cons h,List.set_cons_zero,Q9 h,List.append_assoc]
 rfl
theorem Qo {xs:List Ar} {i:Nat} {a:Ar} (h:xs[i]?=some a):(Ax xs)[i*2+1]?=some (.v (.int .i64 a.2)):=by
 induction xs generalizing i with
 | nil=>simp at h
 | cons b r ih=>
  cases i with
  | zero=>simp at h;subst h;rfl
  | succ i=>
   rw [List.getElem?_cons_succ] at h
   rw [show (i+1)*2+1=i*2+1+2 from by omega]
   exact ih h
def Yd (f:Nat->Nat) (n k:Nat):List (List Int):=(List.range n).map fun c=>(((List.range k).filter fun s=>f s == c).map Int.ofNat)
theorem Qp (f:Nat->Nat) (n:Nat):Yd f n n=Y6 f n:=rfl
theorem SE (f:Nat->Nat) (n k:Nat):(Yd f n k).length=n:=by simp [Yd]
theorem Qq (f:Nat->Nat) (n:Nat):List.replicate n (C.o (1,3) [])=Bd (Yd f n 0):=by
 refine List.ext_getElem (by simp [Bd,Yd]) fun i h1 h2=>?_
 simp [Bd,Yd,Ab]
theorem SF {f:Nat->Nat} {n k c:Nat} (h:c<n):(Yd f n k)[c]?=some (((List.range k).filter fun s=>f s == c).map Int.ofNat):=by simp [Yd,h]
theorem SG {f:Nat->Nat} {n k:Nat} (h:f k<n):(Yd f n k).set (f k) (((List.range k).filter fun s=>f s == f k).map Int.ofNat++[(k:Int)])=Yd f n (k+1):=by
 refine List.ext_getElem (by simp [Yd]) fun i h1 h2=>?_
 rw [List.getElem_set]
 split
 rotate_left
 ·rename_i e
  simp only [Yd,List.getElem_map,List.getElem_range,List.range_succ,List.filter_append,List.map_append]
  simp [e]
 rename_i e
 subst e
 simp only [Yd,List.getElem_map,List.getElem_range,List.range_succ,List.filter_append,List.map_append]
 simp
theorem SH (R:List (List Ar)) (D:List Int) (dv:List Bool) (f rk:Nat->Nat) (hlo:∀ r∈R,∀ a∈r,0<=a.2/\a.2<(R.length:Int)) (htot:Bw R<=1000000) (hDl:D.length=R.length) (hD:∀ v,v<R.length->D[v]?=some (f v:Int)/\f v<R.length) (hE:∀ e∈Xy f R R.length,(e.1<R.length/\f e.1=e.1)/\e.2<R.length/\f e.2=e.2/\rk e.2<rk e.1) (hn:R.length<=1000000) (hr:∀ r∈R,r.length<=1000000) {n m:Nat}:FC Tryz.prog 75 [.a (.g [.b 0 0 n]),.a (.c (.b 0 1 m))] [.r (Yb R D dv)] (fun r o=>∃ Q,Hr (Xy f R R.length) R.length f Q/\r=.a (.c (.s 1 Q.length))/\o=[.r (Yb R D dv),AA (Q.map Int.ofNat)]):=by
 have h:=Ub R D f rk hlo htot hDl hD hE hn hr
 have h2:FC Tryz.prog 75 [B7 R,As D] [] (fun r o=>∃ L,(∃ Q,Hr (Xy f R R.length) R.length f Q/\L=Q.map Int.ofNat)/\r=.a (.c (.s 0 L.length))/\o=[.r ⟨3,1,true,A7 L⟩]):=h.mono fun r o ⟨Q,h1,h2,h3⟩=>⟨Q.map Int.ofNat,⟨Q,h1,rfl⟩,by rw [h2,List.length_map],h3⟩
 refine (FC.inB (A':=[.a (.g [.b 0 0 n]),.a (.c (.b 0 1 m))]) (r0:=Yb R D dv) h2 fun g w vals hr ⟨hl,ha⟩=>⟨hl,fun i x hx=>?_⟩).mono fun r o ⟨L,⟨Q,h1,e⟩,h2,h3⟩=>⟨Q,h1,by rw [h2,e,List.length_map],by rw [h3,e];rfl⟩
 match i,hx with
 | 0,hx=>
  cases hx
  obtain ⟨v,h1,us,h3,h4,h5⟩:=ha 0 _ rfl
  refine ⟨v,h1,us,h3,h4,fun i x hx=>?_⟩
  match i,hx with
  | 0,hx=>
   cases hx
   obtain ⟨u,h6,h7⟩:=h5 0 _ rfl
   exact ⟨u,h6,Ri hr rfl h7⟩
  | i+1,hx=>simp at hx
 | 1,hx=>
  cases hx
  obtain ⟨v,h1,h2⟩:=ha 1 _ rfl
  exact ⟨v,h1,(show AVR _ (.a (.c (.t 1 (Ab D)))) v from Ri hr (show (Yb R D dv).cells[1]?=some (.o (1,3) (Ab D)) from rfl) h2)⟩
 | i+2,hx=>simp at hx
set_option maxHeartbeats 8000000 in
theorem SI (Ls:List (List (List Ar))) (h1:Ls ≠ []) (hm:Ls.length<=1000) (hv:∀ R∈Ls,Bv R=true) (hr:∀ R∈Ls,∀ r∈R,r.length<=1000000) (hs1:(Ls.map List.length).sum<=Tq) (hs2:(Ls.map Bw).sum<=Ts):
  FC Tryz.prog 40 [.a (.c (.t 1 (Ya Ls)))] [] (fun r o=>r=.a (.c (.p 0 0))/\∃ D Q B,Bv (L6 Ls)=true/\CpOk (L6 Ls) D/\DvL (L6 Ls) B/\Hr (Xy (XG D) (L6 Ls) (L6 Ls).length) (L6 Ls).length (XG D) Q/\o=[.r (Y9 (L6 Ls) D (Q.map Int.ofNat) (Y6 (XG D) (L6 Ls).length) B)]):=by
 refine A6 Tryz.func40 rfl (by rw [Tryz.ntmps40];simp) ?_
 rw [Tryz.ntmps40]
 have hmS:Tq=16384:=rfl
 have hmA:Ts=262144:=rfl
 simp only [Bf]
 (refine Wu @O7 ?_;(repeat clear hK K);repeat refine kq fun K hK=>?_)
 refine Au (HF 0 0 42 1 rfl rfl (by omega)) ?_
 simp only [go_sem]
 refine Au (HF 0 1 3 1 rfl rfl (by omega)) ?_
 simp only [go_sem]
 refine Au (HF 0 4 4 1 rfl rfl (by omega)) ?_
 simp only [go_sem]
 refine Au (A9 [0] rfl rfl) ?_
 (try simp only [List.set_nil,List.take_nil,List.take_zero,List.map_append,go_sem])
 refine A8 (fun x:Nat × List (List Ar) × List Int × List Bool=>{ tm:=[(3,.a (.c (.p 0 0))),(17,.a (.c (.t 1 (Ya Ls)))),(18,.i Ls.length),(19,.i x.1)],hp:=[.r (Yb x.2.1 x.2.2.1 x.2.2.2)],n:=147,pin:=0 }) (fun x=>x.1<=Ls.length/\(x.2.1=[]\/Bv x.2.1=true)/\(x.2.1.length+((Ls.drop x.1).map List.length).sum<=Tq/\Bw x.2.1+((Ls.drop x.1).map Bw).sum<=Ts)/\(∀ r∈x.2.1,r.length<=1000000)/\CpOk x.2.1 x.2.2.1/\DvL x.2.1 x.2.2.2/\x.2.1=L6 (Ls.take x.1)) (fun x=>Ls.length - x.1) (0,[],[],[]) ?_ ?_ ?_
 ·exact ⟨by simp,.inl rfl,⟨by simpa using hs1,by simpa [Bw] using hs2⟩,by simp,⟨rfl,fun v hv=>by simp at hv⟩,⟨rfl,fun v hv=>by simp at hv⟩,rfl⟩
 ·simp only [Yb,Ah,Ab,X6,List.map_nil]
  exact WE
 rintro ⟨k,A,cm,dv⟩ ⟨hk,hA,⟨hz1,hz2⟩,hrA,hC,hB,hAe⟩ K hK
 simp only at hk hA hz1 hz2 hrA hC hB hAe
 simp only [Yb]
 by_cases hlk:k<Ls.length
 rotate_left
 ·have d0:decide ((k:Int)<(Ls.length:Int))=false:=by simpa using hlk
  have hke:Ls.take k=Ls:=gE7 (by omega)
  rw [hke] at hAe
  have hne:A ≠ []:=by
   obtain ⟨Lr,R,rfl⟩:∃ Lr R,Ls=Lr++[R]:=⟨Ls.dropLast,Ls.getLast h1,(List.dropLast_concat_getLast h1).symm⟩
   have hR:=hv R (List.mem_append_right _ List.mem_cons_self)
   have hRl:1<=R.length:=(gE4 (gEg (gE4 hR).1:BE R=true)).1
   rw [IG] at hAe
   intro h
   have:=congrArg List.length (h.symm.trans hAe)
   rw [CF,List.length_nil] at this
   omega
  have hvW:Bv A=true:=hA.resolve_left hne
  have hWlo:BE A=true:=gEg (gE4 hvW).1
  have hWt:Bw A<=1000000:=by have:=(gE4 hWlo).2.2.1;omega
  have hWl:A.length<=1000000:=by have:=(gE4 hWlo).2.1;omega
  have hord:=fun n m=>SH A cm dv (XG cm) (XH A) (n:=n) (m:=m) (fun r h a ha=>by have:=(gE4 hWlo).2.2.2 r h a ha;exact ⟨this.2.2.1,this.2.2.2⟩) hWt hC.1 (fun v hv=>⟨(BN hvW hC hv).1,(BN hvW hC hv).2.1⟩) (Q5 hvW hC) hWl hrA
  have hcl:cm.length=A.length:=hC.1
  (refine Wu @d0 ?_;(repeat clear hK K);repeat refine kq fun K hK=>?_)
  refine WC ?_
  (refine Wx ?_;repeat clear hK K)
  (refine Wt ?_;(repeat clear hK K);repeat refine kq fun K hK=>?_)
  (refine Ac 9 [(0,0),(1,0),(2,0),(3,0),(4,1),(5,0),(6,0),(7,0),(8,1),(9,2),(10,0),(11,0),(12,2)] (by kernel_rfl) (by kernel_rfl) (by intro c st h;simp [Ae,AF,VT] at h) ?_)
  (refine Wp ?_;repeat clear hK K)
  (refine Vv (id:=0) (off:=0) (k:=(1,42)) (cs:=Ah A) rfl rfl rfl rfl ty25 rfl rfl (by simp only [go_sem]) rfl rfl (show 0<1 by omega) ?_;simp only [go_sem,A3])
  (refine Wq @A4 ?_;repeat clear hK K)
  (refine W1 rfl rfl rfl ?_;intro K1 hK1;refine AH (ids:=[]) [0] (hord A.length cm.length) rfl rfl (by simp only [go_sem]) (by first | assumption | kernel_rfl) rfl rfl (by (simp only [List.map_append,List.append_nil,go_sem]) <;> rfl) (by (simp only [VS,Yb,go_sem]) <;> rfl) ?_ ?_)
  ·rintro _ _ ⟨Q,h1,rfl,rfl⟩;rfl
  rintro _ _ ⟨Q,hQ,rfl,rfl⟩
  simp only [Yb,AA]
  (simp only [As,Bl,BQ,List.append_nil,List.nil_append,List.length_map,go_sem];refine hK1 _ ?_;clear hK1 K1)
  (refine Wp ?_;repeat clear hK K)
  refine Au (AR (r:=⟨3,1,true,A7 (Q.map Int.ofNat)⟩) (ri:=⟨92,5,false,[.o (1,42) (Ah A),.o (1,3) (Ab cm),.s 1 Q.length,.v (.slice none 0 0),.o (1,4) (X6 dv)]⟩) (ts:=Ab (Q.map Int.ofNat)) 0 2 1 Q.length (by decide) rfl rfl rfl rfl (show 0<1 by omega) (by rw [A5];simp) (EM _)) ?_
  simp only [go_sem]
  refine Au (A9 [0] rfl rfl) ?_
  (try simp only [List.set_nil,List.take_nil,List.take_zero,List.map_append,go_sem])
  refine Au (Cm 0 rfl) ?_
  simp only [go_sem,VX]
  (refine Wu (an @A3 (an @A4 @hcl)) ?_;(repeat clear hK K);repeat refine kq fun K hK=>?_)
  rw [Qq (XG cm)]
  refine A8 (fun z:Nat=>{ tm:=[(3,.a (.c (.p 0 0))),(122,.a (.c (.t 1 (Ab cm)))),(123,.i A.length),(124,.i z)],hp:=[.r ⟨92,5,false,[.t 1 (Ah A),.t 1 (Ab cm),.t 1 (Ab (Q.map Int.ofNat)),.s 1 A.length,.t 1 (X6 dv)]⟩,.r ⟨22,1,true,Bd (Yd (XG cm) A.length z)⟩],n:=147,pin:=0 }) (fun z=>z<=A.length) (fun z=>A.length - z) 0 ?_ ?_ ?_
  ·omega
  ·exact WE
  rintro z hz K hK
  by_cases hlt:z<A.length
  rotate_left
  ·have d1:decide ((z:Int)<(A.length:Int))=false:=by simpa using hlt
   have hze:z=A.length:=by omega
   subst hze
   rw [Qp]
   (refine Wu @d1 ?_;(repeat clear hK K);repeat refine kq fun K hK=>?_)
   refine WC ?_
   (refine Wx ?_;repeat clear hK K)
   refine Au (Cm 1 rfl) ?_
   simp only [F8,go_sem]
   have hmlen:=JB (XG cm) A.length
   generalize hML:Y6 (XG cm) A.length=ML at *
   refine Au (AR (r:=⟨22,1,true,CE ML⟩) (ri:=⟨92,5,false,[.t 1 (Ah A),.t 1 (Ab cm),.t 1 (Ab (Q.map Int.ofNat)),.s 1 A.length,.t 1 (X6 dv)]⟩) (ts:=Co ML) 0 3 1 A.length (by decide) rfl rfl rfl rfl (show 0<1 by omega) (by simp [CE,hmlen]) (PQ _)) ?_
   simp only [go_sem]
   refine Au (Cm 0 rfl) ?_
   simp only [go_sem,VX]
   (refine Wt ?_;(repeat clear hK K);repeat refine kq fun K hK=>?_)
   refine WF [0] Tryz.results40 ?_
   rw [<- hAe]
   exact ⟨cm,Q,dv,hvW,hC,hB,hQ,by rw [hML];rfl⟩
  have d1:decide ((z:Int)<(A.length:Int))=true:=by simpa using hlt
  obtain ⟨gc0,hfc,_⟩:=BN hvW hC hlt
  have gc:=Am gc0
  have gN:=DS (SF (f:=XG cm) (k:=z) hfc)
  have hns:=SG hfc
  have hnl:=SE (XG cm) A.length z
  have hol:(((List.range z).filter fun s=>XG cm s == XG cm z).map Int.ofNat).length<=1000000:=by
   rw [List.length_map]
   have:=List.length_filter_le (fun s=>XG cm s == XG cm z) (List.range z)
   rw [List.length_range] at this;omega
  generalize ((List.range z).filter fun s=>XG cm s == XG cm z).map Int.ofNat=oc at *
  generalize hMM:Yd (XG cm) A.length z=M at *
  obtain ⟨c,hce⟩:∃ c,XG cm z=c:=⟨_,rfl⟩
  rw [hce] at gc gN hns hfc
  (refine Wu @d1 ?_;(repeat clear hK K);repeat refine kq fun K hK=>?_)
  refine WB ?_
  (refine Wu (an @gc (an @A4 @hcl)) ?_;(repeat clear hK K);repeat refine kq fun K hK=>?_)
  (refine AJ [0] (.m 0 0 0 (.m 1 0 0 (.m 2 0 0 (.m 4 0 0 (.m 5 0 0 (.m 6 0 0 (.m 7 0 0 (.m 9 0 0 (.m 12 0 0 (.m 3 1 16 (.m 8 1 14 (.m 10 0 0 (.m 11 1 14 (.a 13 (.a 14 (.m 15 0 0 (.a 16 .e))))))))))))))))) (by kernel_rfl) (by kernel_rfl) (by intro c st h;simp [Ae,AF,VT] at h) ?_)
  (refine Ww (an @BB (an @hnl @gN)) ?_;repeat clear hK K)
  (refine Wj rfl rfl ?_;intro K1 hK1;refine Bx rfl ?_;simp only [go_sem];(first | refine hK1 _ ?_ | refine AD (hK1 _ ?_));clear hK1 K1)
  (refine Ga rfl rfl rfl ?_;intro K1 hK1;refine CK rfl rfl rfl rfl (by first | rfl | simp only [CQ,List.getD_cons_zero,List.getD_cons_succ,hne,List.isEmpty_cons,Bool.not_false,Bool.true_and,Bool.and_true,Bool.and_self]) rfl ?_;simp only [go_sem,BB,hnl,gN,List.set_cons_zero,List.set_cons_succ,List.take_succ_cons,List.take_zero,List.drop_zero,List.length_take,List.length_drop,List.length_append,A4,Az,AN,Bm,A5,AU,AE,B1,AG,AM];(first | refine hK1 _ ?_ | refine AD (hK1 _ ?_));clear hK1 K1)
  (refine Ww (an @BB (an @hnl @List.length_set.{0})) ?_;repeat clear hK K)
  (refine Wk rfl rfl rfl rfl ?_;intro K1 hK1;refine AP rfl ?_;simp only [go_sem,BB,List.length_set,CV,hnl];(first | refine hK1 _ ?_ | refine AD (hK1 _ ?_));clear hK1 K1)
  refine CL ⟨by simp,by simp,?_⟩
  (try simp only [Ae,AF])
  refine hK _ ?_
  clear hK K
  have hj6:((Bd M).set c (C.s 3 (oc.length+1)))[c]?=some (.s 3 (oc.length+1)):=by rw [gEc (by rw [BB];omega)]
  have hset6:((Bd M).set c (C.s 3 (oc.length+1))).set c (.o (1,3) (Ab (oc++[(z:Int)])))=Bd (Yd (XG cm) A.length (z+1)):=by rw [CV,F3,<- hns]
  (refine Wt ?_;(repeat clear hK K);repeat refine kq fun K hK=>?_)
  refine WD ?_
  refine hK _ (z+1) (by omega) (by omega) ?_
  refine Le.trans (AR (r:=⟨3,1,true,A7 (oc++[(z:Int)])⟩) (ri:=⟨22,1,true,(Bd M).set c (C.s 3 (oc.length+1))⟩) (ts:=Ab (oc++[(z:Int)])) 1 c 3 (oc.length+1) (by decide) rfl hj6 rfl rfl (show 0<1 by omega) (by rw [A5];simp) (EM _)) ?_
  simp only [hset6,go_sem]
  refine Le.trans (A9 [0,1] rfl rfl) ?_
  (try simp only [List.set_nil,List.take_nil,List.take_zero,List.map_append,go_sem])
  (try simp only [D9])
  exact WE
 have d0:decide ((k:Int)<(Ls.length:Int))=true:=by simpa using hlk
 have gL:=Uo (gE1 hlk)
 have hvR:=hv _ (gE6 hlk)
 have hrR:=hr _ (gE6 hlk)
 have htkL:Ls.take (k+1)=Ls.take k++[Ls[k]]:=gE8 hlk
 have hbk:L6 (Ls.take (k+1))=Eo A Ls[k]:=by rw [htkL,IG,hAe]
 have hdr:=List.drop_eq_getElem_cons hlk
 rw [hdr] at hz1 hz2
 simp only [List.map_cons,List.sum_cons] at hz1 hz2
 generalize Ls[k]=R at *
 have hlo:BE R=true:=gEg (gE4 hvR).1
 (refine Wu @d0 ?_;(repeat clear hK K);repeat refine kq fun K hK=>?_)
 refine WB ?_
 (refine Cn (an @O7 (an @gL @A3)) ?_;(repeat clear hK K);repeat refine kq fun K hK=>?_)
 refine A8 (fun s:Nat=>{ tm:=[(3,.a (.c (.p 0 0))),(5,.a (.c (.p 1 0))),(6,.i A.length),(17,.a (.c (.t 1 (Ya Ls)))),(18,.i Ls.length),(19,.i k),(30,.a (.c (.t 1 (Ah R)))),(31,.i R.length),(32,.i s)],hp:=[.r (Yb (A++(XF A.length R).take s) cm dv),.r ⟨25,1,false,[.t 1 (Ah R)]⟩],n:=147,pin:=0 }) (fun s=>s<=R.length) (fun s=>R.length - s) 0 ?_ ?_ ?_
 ·omega
 ·simp only [List.take_zero,List.append_nil,Yb]
  exact WE
 rintro s hs K hK
 simp only [Yb]
 by_cases hlt:s<R.length
 ·have d1:decide ((s:Int)<(R.length:Int))=true:=by simpa using hlt
  have hgR:=gE1 hlt
  have hrl:=hrR _ (gE6 hlt)
  have htk:=Qa (n:=A.length) hlt
  have hbr:=fun a ha=>(gE4 hlo).2.2.2 _ (gE6 hlt) a ha
  have hol:(A++(XF A.length R).take s).length<=Tq:=by rw [List.length_append,List.length_take,Hs];omega
  have hnx:A++(XF A.length R).take (s+1)=(A++(XF A.length R).take s)++[XE A.length R[s]]:=by rw [htk,List.append_assoc]
  generalize R[s]=row at *
  generalize hO:A++(XF A.length R).take s=O at *
  have hcl:=GQ (Ao row) (by rw [A2];omega)
  rw [Kt,A2,Ak] at hcl
  (refine Wu (an @A3 @d1) ?_;(repeat clear hK K);repeat refine kq fun K hK=>?_)
  refine WB ?_
  (refine Wu (an @A3 (Ag hgR)) ?_;(repeat clear hK K);repeat refine kq fun K hK=>?_)
  (refine Wy hcl ?_;intro K1 hK1)
  rintro _ _ ⟨rfl,rfl⟩
  (simp only [As,Bl,CN,List.append_nil,List.nil_append,List.length_map,go_sem];refine hK1 _ ?_;clear hK1 K1)
  (refine Wt ?_;(repeat clear hK K);repeat refine kq fun K hK=>?_)
  refine A8 (fun i:Nat=>{ tm:=[(3,.a (.c (.p 0 0))),(5,.a (.c (.p 1 0))),(6,.i A.length),(9,.a (.c (.s 2 row.length))),(17,.a (.c (.t 1 (Ya Ls)))),(18,.i Ls.length),(19,.i k),(30,.a (.c (.t 1 (Ah R)))),(31,.i R.length),(32,.i s),(39,.i row.length),(40,.i i)],hp:=[.r (Yb O cm dv),.r ⟨25,1,false,[.t 1 (Ah R)]⟩,.r ⟨46,2,true,Ax (Yc A.length row i)⟩],n:=147,pin:=0 }) (fun i=>i<=row.length) (fun i=>row.length - i) 0 ?_ ?_ ?_
  ·omega
  ·simp only [Qm,Yb]
   exact WE
  rintro i hi K hK
  simp only [Yb]
  by_cases hli:i<row.length
  ·have d2:decide ((i:Int)<(row.length:Int))=true:=by simpa using hli
   have hg:=SC (n:=A.length) hli
   have hst:=SD (n:=A.length) hli
   have hba:=hbr _ (gE6 hli)
   have hsl:=SB A.length row i
   generalize row[i]=a at *
   obtain ⟨e,t⟩:=a
   simp only at hg hst hba
   have hf1:=Qo hg
   have hs1':=F5 hg (t+(A.length:Int))
   rw [hst] at hs1'
   simp only at hf1
   (refine Wu @d2 ?_;(repeat clear hK K);repeat refine kq fun K hK=>?_)
   refine WB ?_
   (refine Cn (an @Ap (an @hsl (an @hf1 @hs1'))) ?_;(repeat clear hK K);repeat refine kq fun K hK=>?_)
   refine WD ?_
   refine hK _ (i+1) (by omega) (by omega) ?_
   simp only [Yb]
   exact WE
  have d2:decide ((i:Int)<(row.length:Int))=false:=by simpa using hli
  have hie:i=row.length:=by omega
  subst hie
  rw [Qn]
  (refine Wu @d2 ?_;(repeat clear hK K);repeat refine kq fun K hK=>?_)
  refine WC ?_
  (refine Wx ?_;repeat clear hK K)
  have hsal:=CO A.length row
  have hft:(if row.length*2<=(Ao (XE A.length row)).length then C.t 2 ((Ao (XE A.length row)).take (row.length*2)) else C.u)=C.t 2 (Ao (XE A.length row)):=by
   rw [if_pos (by rw [A2,hsal];exact Nat.le_refl _),gE7 (by rw [A2,hsal];exact Nat.le_refl _)]
  (refine Au (Bg (r:=⟨46,2,true,Ax (XE A.length row)⟩) 2 (Ao (XE A.length row)) rfl (Dl _) (show 0<(2:Nat) by omega)) ?_;simp only [ST.frz,A0.frz,AV.frz,C.frz,Nat.le_refl,List.set_cons_zero,List.set_cons_succ,go_sem,hft])
  generalize XE A.length row=q at *
  (refine Wu (an @A3 (an @List.set_cons_zero.{0} (an @List.set_cons_succ.{0} (an @List.take_succ_cons.{0} (an @List.take_zero.{0} (an @List.drop_zero.{0} (an @List.length_take.{0} (an @List.length_drop.{0} (an @List.length_append.{0} (an @A4 (an @Az (an @AN (an @Bm (an @A5 (an @AU (an @AE (an @B1 (an @AG @AM)))))))))))))))))) ?_;(repeat clear hK K);repeat refine kq fun K hK=>?_)
  have hcr:(Ah O).map C.ofTr++[C.t 2 (Ao q)]=AO (O++[q]):=by simp [AO,Ah,C.ofTr,Function.comp_def]
  refine WD ?_
  refine hK _ (s+1) (by omega) (by omega) ?_
  rw [hnx]
  simp only [hcr]
  refine Le.trans (AR (r:=⟨42,1,true,AO (O++[q])⟩) (ri:=⟨92,5,false,[.s 4 (O.length+1),.o (1,3) (Ab cm),.v (.slice none 0 0),.v (.slice none 0 0),.o (1,4) (X6 dv)]⟩) (ts:=Ah (O++[q])) 0 0 4 (O.length+1) (by decide) rfl rfl rfl rfl (show 0<1 by omega) (by rw [Ay];simp) (CZ _)) ?_
  simp only [go_sem]
  refine Le.trans (A9 [0,1] rfl rfl) ?_
  (try simp only [List.set_nil,List.take_nil,List.take_zero,List.map_append,go_sem])
  simp only [Yb]
  exact WE
 have d1:decide ((s:Int)<(R.length:Int))=false:=by simpa using hlt
 have hse:A++(XF A.length R).take s=Eo A R:=by rw [gE7 (by rw [Hs];omega)];rfl
 have hvW:=NH hA hvR (by omega) (by omega)
 have h1R:1<=R.length:=(gE4 hlo).1
 rw [hse]
 (refine Wu @d1 ?_;(repeat clear hK K);repeat refine kq fun K hK=>?_)
 refine WC ?_
 (refine Wx ?_;repeat clear hK K)
 (refine Wt ?_;(repeat clear hK K);repeat refine kq fun K hK=>?_)
 (refine Wy (Kw R true hvR h1R (by omega) hrR) ?_;intro K1 hK1)
 rintro _ _ ⟨D,hD,rfl,rfl⟩
 have hAl:∀ x,x<A.length->∀ y∈WP true A x,y<A.length:=by
  rcases hA with rfl | hA
  ·intro x hx;simp at hx
  exact Cw true (gEg (gE4 hA).1)
 have hDb:=hC.both hAl hlo hD
 have hcl:cm.length=A.length:=hC.1
 have hDl:=hD.1
 (refine Wz ?_;clear hK1 K1)
 (refine Wu (an @A4 @hDl) ?_;(repeat clear hK K);repeat refine kq fun K hK=>?_)
 refine A8 (fun z:Nat=>{ tm:=[(3,.a (.c (.p 0 0))),(5,.a (.c (.p 1 0))),(6,.i A.length),(17,.a (.c (.t 1 (Ya Ls)))),(18,.i Ls.length),(19,.i k),(67,.a (.c (.t 1 (Ab D)))),(68,.i R.length),(69,.i z)],hp:=[.r (Yb (Eo A R) (cm++(D.map (·+(A.length:Int))).take z) dv),.r ⟨25,1,false,[.t 1 (Ah R)]⟩],n:=147,pin:=0 }) (fun z=>z<=R.length) (fun z=>R.length - z) 0 ?_ ?_ ?_
 ·omega
 ·simp only [List.take_zero,List.append_nil,Yb]
  exact WE
 clear hs hlt d1 hse
 rintro z hz K hK
 simp only [Yb]
 by_cases hlt:z<R.length
 ·have d2:decide ((z:Int)<(R.length:Int))=true:=by simpa using hlt
  have hkD:z<D.length:=by omega
  have gD:=Am (gE1 hkD)
  have hsn:cm++(D.map (·+(A.length:Int))).take (z+1)=(cm++(D.map (·+(A.length:Int))).take z)++[D[z]+(A.length:Int)]:=by
   rw [gE8 (by rw [List.length_map];exact hkD),<- List.append_assoc];simp
  have hbd:0<=D[z]/\D[z]<(R.length:Int):=by
   have:=BN hvR hD hlt
   rw [gE1 hkD] at this
   have h3:=Option.some.inj this.1
   omega
  have hol:(cm++(D.map (·+(A.length:Int))).take z).length<=1000000:=by rw [List.length_append,List.length_take,List.length_map];omega
  generalize D[z]=x at *
  generalize cm++(D.map (·+(A.length:Int))).take z=O at *
  (refine Wu @d2 ?_;(repeat clear hK K);repeat refine kq fun K hK=>?_)
  refine WB ?_
  (refine Wu (an @gD (an @A4 (an @hDl (an @List.set_cons_zero.{0} (an @List.set_cons_succ.{0} (an @List.take_succ_cons.{0} (an @List.take_zero.{0} (an @List.drop_zero.{0} (an @List.length_take.{0} (an @List.length_drop.{0} (an @List.length_append.{0} (an @A4 (an @Az (an @AN (an @Bm (an @A5 (an @AU (an @AE (an @B1 (an @AG @AM)))))))))))))))))))) ?_;(repeat clear hK K);repeat refine kq fun K hK=>?_)
  refine WD ?_
  refine hK _ (z+1) (by omega) (by omega) ?_
  rw [hsn]
  refine Le.trans (AR (r:=⟨3,1,true,A7 (O++[x+(A.length:Int)])⟩) (ri:=⟨92,5,false,[.o (1,42) (Ah (Eo A R)),.s 3 (O.length+1),.v (.slice none 0 0),.v (.slice none 0 0),.o (1,4) (X6 dv)]⟩) (ts:=Ab (O++[x+(A.length:Int)])) 0 1 3 (O.length+1) (by decide) rfl rfl rfl rfl (show 0<1 by omega) (by rw [A5];simp) (EM _)) ?_
  simp only [go_sem]
  refine Le.trans (A9 [0,1] rfl rfl) ?_
  (try simp only [List.set_nil,List.take_nil,List.take_zero,List.map_append,go_sem])
  simp only [Yb]
  exact WE
 have d2:decide ((z:Int)<(R.length:Int))=false:=by simpa using hlt
 have hse:(D.map (·+(A.length:Int))).take z=D.map (·+(A.length:Int)):=gE7 (by rw [List.length_map];omega)
 rw [hse]
 have hDbl:=hDb.1
 have hWr:∀ r∈Eo A R,r.length<=1000000:=fun r hr2=>by
  rcases List.mem_append.1 hr2 with h | h
  ·exact hrA r h
  obtain ⟨q,hq,rfl⟩:=List.mem_map.1 h
  rw [CO];exact hrR q hq
 have hdvl:=hB.1
 generalize cm++D.map (·+(A.length:Int))=E at *
 (refine Wu @d2 ?_;(repeat clear hK K);repeat refine kq fun K hK=>?_)
 refine WC ?_
 (refine Wx ?_;repeat clear hK K)
 (refine Wt ?_;(repeat clear hK K);repeat refine kq fun K hK=>?_)
 (refine AJ [] (.m 0 0 0 (.m 1 0 0 (.m 2 0 0 (.m 3 0 0 (.m 4 1 7 (.m 5 1 6 (.a 6 (.a 7 (.m 8 0 0 (.m 9 0 0 (.a 10 .e))))))))))) (by kernel_rfl) (by kernel_rfl) (by intro c st h;simp [Ae,AF,VT] at h) ?_)
 (refine Ww @BD ?_;repeat clear hK K)
 (refine Wj rfl rfl ?_;intro K1 hK1;refine StpC.f (Bb (ids:=[]) (Nn R hvR (by omega) hrR) rfl rfl (by simp only [go_sem]) (by kernel_rfl) (by (simp only [List.append_nil,go_sem]) <;> rfl) ?_))
 rintro _ _ ⟨B,hBR,rfl,rfl⟩
 have hBl:=hBR.1
 (refine Wz ?_;clear hK1 K1)
 (refine Ga rfl rfl rfl ?_;intro K1 hK1;refine CK rfl rfl rfl rfl (by first | rfl | simp only [CQ,List.getD_cons_zero,List.getD_cons_succ,hne,List.isEmpty_cons,Bool.not_false,Bool.true_and,Bool.and_true,Bool.and_self]) rfl ?_;simp only [go_sem,BD,List.set_cons_zero,List.set_cons_succ,List.take_succ_cons,List.take_zero,List.drop_zero,List.length_take,List.length_drop,List.length_append,A4,Az,AN,Bm,A5,AU,AE,B1,AG,AM];(first | refine hK1 _ ?_ | refine AD (hK1 _ ?_));clear hK1 K1)
 (refine Ww @BD ?_;repeat clear hK K)
 (refine Wk rfl rfl rfl rfl ?_;intro K1 hK1;refine AP rfl ?_;simp only [go_sem];(first | refine hK1 _ ?_ | refine AD (hK1 _ ?_));clear hK1 K1)
 refine CL ⟨by simp,by simp,?_⟩
 (try simp only [Ae,AF])
 refine hK _ ?_
 clear hK K
 have hcb:(X6 dv).map C.ofTr++(X6 B).map C.ofTr=WU (dv++B):=by simp [WU,X6,C.ofTr,Function.comp_def]
 have hBb:=hB.both hAl hlo hBR
 have hcBl:(WU (dv++B)).length=dv.length+B.length:=by simp [WU]
 simp only [hcb]
 generalize dv++B=Z at *
 refine Au (AR (r:=⟨4,1,true,WU Z⟩) (ri:=⟨92,5,false,[.o (1,42) (Ah (Eo A R)),.o (1,3) (Ab E),.v (.slice none 0 0),.v (.slice none 0 0),.s 2 (dv.length+B.length)]⟩) (ts:=X6 Z) 0 4 2 (dv.length+B.length) (by decide) rfl rfl rfl rfl (show 0<1 by omega) (by rw [hcBl,Nat.mul_one]) (PP _)) ?_
 simp only [go_sem]
 refine Au (A9 [0] rfl rfl) ?_
 (try simp only [List.set_nil,List.take_nil,List.take_zero,List.map_append,go_sem])
 (refine Wt ?_;(repeat clear hK K);repeat refine kq fun K hK=>?_)
 refine WD ?_
 refine hK _ (k+1,Eo A R,E,Z) ⟨by simp only;omega,.inr hvW,⟨?_,?_⟩,hWr,hDb,hBb,hbk.symm⟩ (by simp only;omega) ?_
 ·simp only;rw [CF];omega
 ·simp only;rw [O8];omega
 simp only [Yb]
 exact WE
theorem Up {g:Gh} {w:World} {e:TypeId} {L:List Int} {y:Value} (hr:HR g [.r ⟨e,1,true,A7 L⟩] w) (h:CR g [.r ⟨e,1,true,A7 L⟩] w (.s 0 L.length) y):Rd (Ow [] g) w (.l 1 (Ab L)) y:=by
 obtain ⟨_,h1,A,rfl,h3,h4⟩:=h
 cases L with
 | nil=>exact Rd.e 1 A _
 | cons a r=>
  have hk:g.κ 0 ≠ 0:=by simp only [List.length_cons] at h1;omega
  have hlive:Lv [.r ⟨e,1,true,A7 (a :: r)⟩] g (.ob 0):=.inl ⟨_,rfl,hk⟩
  rcases hr.row 0 _ rfl with ⟨k1,_⟩ | ⟨_,_,arr,k3,k4,k5,k6,k7⟩
  ·exact absurd k1 hk
  have hA:=h3 hk
  subst hA
  refine Rd.l 1 (Ab (a :: r)) (g.γ (.ob 0)) 0 _ _ (fun j=>arr.getD j undef) (by rw [A4,Nat.mul_one]) (by simp) h1 (fun ho=>?_) (hr.lt hlive) (fun j t hj=>?_) (fun j t hj=>?_)
  ·rcases ho with ho | ⟨ℓ,hl,_⟩
   ·exact hr.md _ hlive ho
   cases ℓ with
   | ob id=>rcases hl with ⟨r,h,_⟩ | ⟨kv,h⟩ <;> simp at h
   | cl id j=>obtain ⟨r,k,cs,h,_⟩:=hl;simp at h
  ·have hjl:j<(A7 (a :: r)).length:=by rw [A5,<- A4 (a :: r)];exact (List.getElem?_eq_some_iff.1 hj).1
   have hja:j<arr.size:=Nat.lt_of_lt_of_le hjl k4
   rw [Nat.zero_add,cell_of_row w _ j arr _ (0,0) k3,gEd hja]
   simp [Array.getD,hja]
  have hjl:j<(a :: r).length:=by rw [<- A4 (a :: r)];exact (List.getElem?_eq_some_iff.1 hj).1
  rw [Am (gE1 hjl)] at hj
  cases hj
  obtain ⟨u,u1,u2⟩:=k7 j _ (Aq (gE1 hjl))
  have hu:u=.int .i64 (a :: r)[j]:=u2
  have hja:j<arr.size:=(Array.getElem?_eq_some_iff.1 u1).1
  have e1:arr.getD j undef=.int .i64 (a :: r)[j]:=by
   rw [gEd hja] at u1
   simp only [Array.getD,hja,dif_pos]
   exact (Option.some.inj u1).trans hu
  rw [e1];exact Rd.v _ rfl
theorem FC.inS {P:Program} {f:FuncId} {A A':List AV} {r0:Row} {val:Value} (hFC:FC P f A [] (fun r o=>o=[]/\r=.a (.c (.v val)))) (hmp:∀ (k:Nat × Nat) (cs:List Tr) (j:Nat),r0.cells[j]? ≠ some (C.o k cs))
  (hA:∀ (g:Gh) (w:World) (vals:List Value),HR g [.r r0] w->GA g [.r r0] w A' vals->GA g [] w A vals):
  FC P f A' [.r r0] (fun r o=>o=[.r r0]/\r=.a (.c (.v val))):=by
 intro g w vals hr hargs
 have noL:∀ (g:Gh) (ℓ:Loc),¬ Lv [] g ℓ:=by
  intro g ℓ hl
  cases ℓ with
  | ob id=>rcases hl with ⟨r,h,_⟩ | ⟨kv,h⟩ <;> simp at h
  | cl id j=>obtain ⟨r,k,cs,h,_⟩:=hl;simp at h
 have how:∀ b,Ow [] g b->Ow [.r r0] g b:=fun b ho=>by
  rcases ho with ho | ⟨ℓ,hl,_⟩
  ·exact .inl ho
  exact absurd hl (noL _ ℓ)
 have hHR:HR g [] w:=⟨hr.ml,fun ℓ hl=>absurd hl (noL _ ℓ),fun ℓ _ hl=>absurd hl (noL _ ℓ),fun id r h=>by simp at h,fun id r h=>by simp at h,hr.gl.keep (Nat.le_refl _) (fun _ _ _=>rfl) (fun k _ h=>how k h)⟩
 refine (hFC g w vals hHR (hA g w vals hr hargs)).mono ?_
 rintro en w' ⟨v,r,outs,g',rfl,⟨rfl,rfl⟩,h1,h2,h3,h4,h5⟩
 have hfx:∀ b,b<w.heap.size->w'.heap[b]?=w.heap[b]?:=fun b hb=>h5.block b hb (fun ⟨ℓ,hl,_⟩=>noL _ ℓ hl)
 have hmo:Mo g [.r r0] w g [.r r0] w' (fun _=>True):=⟨fun id h=>⟨h,rfl,rfl⟩,fun b _ h=>h,h5.size,fun b hb _=>hfx b hb,fun q _ hq r2 j k cs e1 e2=>⟨r2,e1,e2,fun hlt=>World.cell?_of_block (hfx _ hlt)⟩⟩
 refine ⟨v,.a (.c (.v val)),[.r r0],g,rfl,⟨rfl,rfl⟩,⟨fun b hb=>Nat.lt_of_lt_of_le (hr.ml b hb) h5.size,hr.md,hr.inj,fun id r2 e1=>?_,fun id kv e1=>?_,hmo.gl hr.gl⟩,⟨Nat.le_refl _,Ext.refl _ _⟩,fun ℓ hl=>.inl ⟨ℓ,hl,rfl⟩,h4,h5.mono fun k _ ⟨ℓ,hl,_⟩=>absurd hl (noL _ ℓ)⟩
 rotate_left
 ·cases id <;> simp at e1
 refine RowR.mo hmo e1 (hr.row id r2 e1) (fun h0=>hfx _ (hr.lt (.inl ⟨r2,e1,h0⟩))) (fun j k cs hj _=>?_)
 cases id with
 | zero=>
  simp at e1
  subst e1
  exact absurd hj (hmp k cs j)
 | succ id=>simp at e1
theorem FC.inS1 {P:Program} {f:FuncId} {e:TypeId} {L:List Int} {val:Value} (hFC:FC P f [As L] [] (fun r o=>o=[]/\r=.a (.c (.v val)))):
  FC P f [.a (.c (.s 0 L.length))] [.r ⟨e,1,true,A7 L⟩] (fun r o=>o=[.r ⟨e,1,true,A7 L⟩]/\r=.a (.c (.v val))):=by
 refine FC.inS hFC (fun k cs j hj=>?_) fun g w vals hr ⟨hl,ha⟩=>⟨hl,fun i x hx=>?_⟩
 ·obtain ⟨x,_,hx⟩:=List.mem_map.1 (gE9 hj)
  cases hx
 match i,hx with
 | 0,hx=>
  cases hx
  obtain ⟨v,h1,h2⟩:=ha 0 _ rfl
  exact ⟨v,h1,Up hr h2⟩
 | i+1,hx=>simp at hx
section
variable {o : Oper} {st : ST} {K : ST -> Prop}
theorem Gw (L:List Int) (ρ:List Nat):(AA L).ren ρ=AA L:=by simp [AA,Ob.ren,Af]
theorem HG (L:List Int) (f:Nat->Nat):(AA L).up f=AA L:=by simp [AA,Ob.up,BQ]
theorem Dr (L:List Int):Cd (AA L)=true:=by
 show (A7 L).all C.pl=true
 rw [List.all_eq_true]
 intro c hc
 obtain ⟨x,_,rfl⟩:=List.mem_map.1 hc
 rfl
theorem O9 {x:Operand} {ts:Array TypeId} {a:Nat} {L:List Int} (hd:VJ o st.n=true) (ho:o.op=.call { callee:=.value (.func 106),args:=#[x],argTypes:=ts }) (hx:st.ev x=.a (.c (.s a L.length))) (ha:st.hp[a]?=some (AA L)) (hL:L.length<=100000000)
  (hnb:Fi [a] st.tm=st.tm) (h:∀ L':List Int,L'.Perm L->L'.Pairwise (fun a b=>a<=b)->K ({ st with hp:=st.hp.set a (AA L') }.put o.dst .u)):Stp Tryz.prog o st K:=by
 have i1:idx [a] a 0=some 0:=by simp [idx]
 refine AH (ids:=[]) [a] (KD L hL) hd ho rfl (by kernel_rfl) rfl (by simp [Br ha]) ?_ ?_ ?_ ?_
 ·simp [hx,Em,AV.ren,A0.ren,C.ren,i1]
 ·have:=Gw L [a]
  simp only [VS,List.map_cons,List.map_nil,D0 ha,this];rfl
 ·rintro r outs ⟨rfl,L',_,_,rfl⟩;rfl
 rintro r outs ⟨rfl,L',h1,h2,rfl⟩
 have e:st.back [a] [.r ⟨3,1,true,A7 L'⟩]={ st with hp:=st.hp.set a (AA L') }:=by
  unfold ST.back
  rw [hnb]
  have:=HG L' (VV [a] st.hp.length)
  simp only [AA] at this
  simp only [List.map_cons,List.map_nil,this,Cb,List.append_nil,AA]
 rw [e];exact h L' h1 h2
theorem SK {x:Operand} {ts:Array TypeId} {a:Nat} {L:List Int} (hd:VJ o st.n=true) (ho:o.op=.call { callee:=.value (.func 86),args:=#[x],argTypes:=ts }) (hx:st.ev x=.a (.c (.s a L.length))) (ha:st.hp[a]?=some (AA L)) (hL:L.length<=100000000)
  (hnb:Fi [a] st.tm=st.tm) (h:K (st.put o.dst (.a (.c (.v (Jx L)))))):Stp Tryz.prog o st K:=by
 have i1:idx [a] a 0=some 0:=by simp [idx]
 refine AH (ids:=[]) [a] (FC.inS1 (e:=3) (Uf L hL)) hd ho rfl (by kernel_rfl) rfl (by simp [Br ha]) ?_ ?_ ?_ ?_
 ·simp [hx,Em,AV.ren,A0.ren,C.ren,i1]
 ·have:=Gw L [a]
  simp only [VS,List.map_cons,List.map_nil,D0 ha,this];rfl
 ·rintro r outs ⟨rfl,rfl⟩;rfl
 rintro r outs ⟨rfl,rfl⟩
 have e:st.back [a] [.r ⟨3,1,true,A7 L⟩]=st:=by
  unfold ST.back
  rw [hnb]
  have:=HG L (VV [a] st.hp.length)
  simp only [AA] at this
  simp only [List.map_cons,List.map_nil,this,Cb,List.append_nil]
  rw [FN (by exact ha)]
 rw [e];exact h
end
theorem H3 {α β:Type} {f:α->β}:∀ {l:List α},(l.map f).Nodup->∀ {a b},a∈l->b∈l->f a=f b->a=b
 | [],_,_,_,h,_,_=>by simp at h
 | x :: l,hn,a,b,ha,hb,e=>by
  simp only [List.map_cons,List.nodup_cons] at hn
  rcases List.mem_cons.1 ha with h1 | h1
  ·rcases List.mem_cons.1 hb with h2 | h2
   ·rw [h1,h2]
   ·exact absurd (List.mem_map.2 ⟨b,h2,by rw [<- e,h1]⟩) hn.1
  ·rcases List.mem_cons.1 hb with h2 | h2
   ·exact absurd (List.mem_map.2 ⟨a,h1,by rw [e,h2]⟩) hn.1
   ·exact H3 hn.2 h1 h2 e
def Ye (V:List (Int × Nat × Nat)) (seen:List Nat):List Int:=seen.map fun z=>(V.map (·.1)).getD z 0
theorem Qr (V:List (Int × Nat × Nat)) (seen:List Nat) (z:Nat):Ye V (seen++[z])=Ye V seen++[(V.map (·.1)).getD z 0]:=by simp [Ye]
theorem SL (V:List (Int × Nat × Nat)) (seen:List Nat):(Ye V seen).length=seen.length:=by simp [Ye]
theorem Qs {V:List (Int × Nat × Nat)} {seen:List Nat} (hnd:seen.Nodup) (h1:∀ z∈seen,z<V.length) (h2:∀ z,z<V.length->z∈seen):(Ye V seen).Perm (V.map (·.1)):=by
 have hp:seen.Perm (List.range V.length):=(List.perm_ext_iff_of_nodup hnd List.nodup_range).2 fun z=>by rw [List.mem_range];exact ⟨h1 z,h2 z⟩
 have e:(List.range V.length).map (fun z=>(V.map (·.1)).getD z 0)=V.map (·.1):=by
  refine List.ext_getElem (by simp) fun i h1 h2=>?_
  have hi:i<V.length:=by simpa using h2
  simp [gE2,hi]
 have:=hp.map (fun z=>(V.map (·.1)).getD z 0)
 rw [e] at this
 exact this
def Yf (V:List (Int × Nat × Nat)) (e:Int):Nat:=((V.find? fun p=>p.1 == e).map (·.2.2)).getD 0
theorem Oa {V:List (Int × Nat × Nat)} (hnd:(V.map (·.1)).Nodup) {p:Int × Nat × Nat} (hp:p∈V):Yf V p.1=p.2.2:=by
 unfold Yf
 cases hf:V.find? (fun q=>q.1 == p.1) with
 | none=>exact absurd (List.find?_eq_none.1 hf p hp) (by simp)
 | some q=>
  have h1:=List.find?_some hf
  have h2:=List.mem_of_find?_eq_some hf
  have:q=p:=H3 hnd h2 hp (by simpa using h1)
  rw [this];rfl
def Yg (V:List (Int × Nat × Nat)) (e:Int):Int × Nat:=(e,Yf V e)
theorem Oc (x:Int) (t:Nat) (V:List (Int × Nat)) (p:Int × Nat):FM x t (V++[p])=FM x t V++(p.1 :: ((AQ p.2).length:Int) :: AQ p.2):=by simp [FM]
theorem Qt (x:Int) (t:Nat) (V:List (Int × Nat)):(FM x t V).length<=66+V.length*66:=by
 unfold FM
 have h0:=CP t
 have h1:(V.flatMap fun p=>p.1 :: ((AQ p.2).length:Int) :: AQ p.2).length<=V.length*66:=by
  induction V with
  | nil=>simp
  | cons p V ih=>
   have:=CP p.2
   simp only [List.flatMap_cons,List.length_append,List.length_cons] at ih ⊢
   omega
 simp only [List.length_cons,List.length_append]
 omega
set_option maxHeartbeats 4000000 in
theorem SM (H:List Ob) (yb ta vi n c x m w:Nat) (cls:Int) (tc vc:List C) (V:List (Int × Nat × Nat)) (hyb:H[yb]?=some (.r ⟨133,2,false,[.s ta n,.s vi n]⟩)) (hta:H[ta]?=some (.r ⟨135,1,true,tc⟩)) (hvi:H[vi]?=some (.r ⟨138,1,true,vc⟩)) (htl:tc.length=n) (hvl:vc.length=n) (hn:n<=1000000)
  (hc:c<n) (gt:tc[c]?=some (.s x 1)) (gx:H[x]?=some (C4 w)) (hw:w<2 ^ 64) (gv:vc[c]?=some (.m m)) (gm:H[m]?=some (.m (Y4 V))) (hnd:(V.map (·.1)).Nodup) (hV:∀ p∈V,H[p.2.1]?=some (C4 p.2.2)/\p.2.2<2 ^ 64) (hVl:V.length<=2000) (hok:H.all Cd=true):
  FC Tryz.prog 78 [.a (.c (.p yb 0)),.i cls,.i (c:Int)] H (fun r o=>(∃ VL:List (Int × Nat),WI (VL.map (·.1))/\(∀ q,q∈VL↔∃ p∈V,q=(p.1,p.2.2))/\r=.a (.c (.v (Jx (FM cls w VL)))))/\Pre H o/\o.all Cd=true):=by
 refine A6 Tryz.func78 rfl (by rw [Tryz.ntmps78];simp) ?_
 rw [Tryz.ntmps78]
 simp only [Bf]
 have hbl:=CP w
 (refine Wu (an @hyb (an @hta (an @htl @gt))) ?_;(repeat clear hK K);repeat refine kq fun K hK=>?_)
 (refine Ai rfl ?_;intro K1 hK1;refine L1 (a:=x) (w:=w) rfl rfl (by simp only [go_sem]) gx hw (by simp [Fi,AV.nb,A0.nb,C.nb]) ?_;simp only [go_sem];refine hK1 _ ?_;clear hK1 K1)
 refine BC (fun G=>Pre H G/\G[H.length]?=some (AA (AQ w))/\G.all Cd=true) ?_ ?_
 ·exact ⟨Pre.push _ _,Bp _ _,Bi hok (Dr _)⟩
 rintro G ⟨hP,gl,hokG⟩
 simp only
 have hll:=Br gl
 obtain ⟨lid,hlid⟩:∃ l,H.length=l:=⟨_,rfl⟩
 rw [hlid] at gl hll ⊢
 (refine Wt ?_;(repeat clear hK K);repeat refine kq fun K hK=>?_)
 refine BC (fun G2=>Pre G G2/\G2[G.length]?=some (AA [cls,(AQ w).length])/\G2.all Cd=true) ?_ ?_
 ·exact ⟨Pre.push _ _,Bp _ _,Bi hokG rfl⟩
 rintro G2 ⟨hP2,gn,hok2⟩
 simp only
 have gl2:=hP2.at gl
 have gn':G2[G.length]?=some (.r ⟨3,1,true,A7 [cls,(AQ w).length]⟩):=gn
 have gl2':G2[lid]?=some (.r ⟨3,1,true,A7 (AQ w)⟩):=gl2
 obtain ⟨nid,hnid⟩:∃ l,G.length=l:=⟨_,rfl⟩
 rw [hnid] at gn gn' hll ⊢
 (refine Wu (an @gn' (an @gl2' (an @List.set_cons_zero.{0} (an @List.set_cons_succ.{0} (an @List.take_succ_cons.{0} (an @List.take_zero.{0} (an @List.drop_zero.{0} (an @List.length_take.{0} (an @List.length_drop.{0} (an @List.length_append.{0} (an @A4 (an @Az (an @AN (an @Bm (an @A5 (an @AU (an @AE (an @B1 (an @AG @AM))))))))))))))))))) ?_;(repeat clear hK K);repeat refine kq fun K hK=>?_)
 refine BC (fun G3=>Pre H G3/\G3[G2.length]?=some (AA (cls :: ((AQ w).length:Int) :: AQ w))/\G3.all Cd=true) ?_ ?_
 ·refine ⟨(((hP.trans hP2).set (by omega) _).trans (Pre.push _ _)),?_,Bi (C2 hok2 rfl _) (Dr _)⟩
  have:=Bp (G2.set nid Ob.d) (AA (cls :: ((AQ w).length:Int) :: List.take (AQ w).length (AQ w)))
  rw [List.length_set,List.take_length] at this
  rw [List.take_length]
  exact this
 have hnG2:=Br gn
 rintro G3 ⟨hP3,gn3,hok3⟩
 simp only
 obtain ⟨id3,hid3⟩:∃ l,G2.length=l:=⟨_,rfl⟩
 rw [hid3] at gn3 hnG2 ⊢
 have hid3l:=Br gn3
 (refine Wu (an (hP3.at hyb) (an (hP3.at hvi) (an @hvl @gv))) ?_;(repeat clear hK K);repeat refine kq fun K hK=>?_)
 (refine Ai rfl ?_;intro K1 hK1;refine Ia (mid:=m) (kv:=Y4 V) Tryz.underlying138 rfl rfl (by simp only [go_sem]) (hP3.at gm) (L3 V) ?_;simp only [go_sem,Cu];refine hK1 _ ?_;clear hK1 K1)
 (refine Wt ?_;(repeat clear hK K);repeat refine kq fun K hK=>?_)
 refine Au (CT 9 3 1 ?_) ?_
 ·simp only [go_sem]
 simp only [List.length_append,List.length_cons,List.length_nil,Nat.zero_add]
 refine H2 (fun G=>Pre H G/\G[id3]?=some (AA (cls :: ((AQ w).length:Int) :: AQ w))/\G[G3.length]?=some (.m (Gx (some m) V.length [] V.length))/\G[G3.length+1]?=some (AA [])/\G.all Cd=true) ?_ ?_
 ·refine ⟨(hP3.trans (Pre.push _ _)).trans (Pre.push _ _),(Pre.push _ _).at ((Pre.push _ _).at gn3),(Pre.push _ _).at (Bp _ _),?_,Bi (Bi hok3 rfl) rfl⟩
  have:=Bp (G3++[Ob.m (Gx (some m) V.length [] V.length)]) (AA [])
  rwa [List.length_append] at this
 obtain ⟨itd,hitd⟩:∃ l,G3.length=l:=⟨_,rfl⟩
 rw [hitd] at hid3l ⊢
 rintro G ⟨hPG,g1,g2,g3,hokG⟩
 simp only
 refine A8 (fun x:List Nat × List Ob × Nat=>{ tm:=[(0,.a (.c (.p yb 0))),(2,.i c),(8,.a (.c (.s id3 (2+(AQ w).length)))),(9,.a (.c (.s x.2.2 (Ye V x.1).length))),(34,.a (.c (.p itd 0)))],hp:=x.2.1,n:=72,pin:=lid }) (fun x=>Pre H x.2.1/\x.2.1[id3]?=some (AA (cls :: ((AQ w).length:Int) :: AQ w))/\x.2.1[itd]?=some (.m (Gx (some m) V.length x.1 V.length))/\x.2.1[x.2.2]?=some (AA (Ye V x.1))/\id3<x.2.2/\(x.1.Nodup/\∀ z∈x.1,z<V.length)/\x.2.1.all Cd=true) (fun x=>V.length - x.1.length) ([],G,itd+1) ?_ ?_ ?_
 ·exact ⟨hPG,g1,g2,g3,by simp only;omega,⟨by simp,by simp⟩,hokG⟩
 ·simp only [Ye,List.map_nil,List.length_nil]
  exact WE
 clear hPG g1 g2 g3 hokG G
 rintro ⟨seen,G,eid⟩ ⟨hPG,g1,g2,g3,hide,⟨hsn,hsb⟩,hokG⟩ K hK
 simp only at hPG g1 g2 g3 hide hsn hsb hokG
 simp only
 refine AC ?_
 intro K hK
 refine Ad ?_
 have hne:itd ≠ eid:=by rintro rfl;rw [g2] at g3;cases g3
 (refine Ai rfl ?_;intro K1 hK1;refine JU (id:=itd) (mid:=m) (kv:=Y4 V) (since:=V.length) (last:=V.length) (seen:=seen) rfl rfl (by simp only [go_sem]) g2 (hPG.at gm) (L3 V) (Gu V) (by rw [Cu];exact Nat.le_refl _) (Nat.le_refl _) ?_ ?_)
 rotate_left
 ·intro z pz hz hzn
  obtain ⟨hzl,hzp⟩:=List.getElem?_eq_some_iff.1 hz
  rw [Cu] at hzl
  have hgz:=gE1 hzl
  have hpz:=O3 hgz
  rw [hz] at hpz
  cases hpz
  have hev:=Qr V seen z
  have hzg:(V.map (·.1)).getD z 0=V[z].1:=by rw [gE2,List.getElem?_map,hgz];rfl
  rw [hzg] at hev
  generalize V[z]=p at *
  obtain ⟨e,pk,pw⟩:=p
  simp only at hev hgz hzp
  have hlen:(seen++[z]).length<=V.length:=by
   have h:=Da (l:=seen++[z]) (m:=List.range V.length) (by rw [List.nodup_append];exact ⟨hsn,by simp,fun a ha b hb=>by simp only [List.mem_singleton] at hb;rw [hb];rintro rfl;exact hzn ha⟩) (fun y hy=>by
    rcases List.mem_append.1 hy with h | h
    ·simpa using hsb y h
    ·simp only [List.mem_singleton] at h;subst h;simpa using hzl)
   rwa [List.length_range] at h
  rw [List.length_append,List.length_cons,List.length_nil] at hlen
  have hevl:=SL V seen
  have hlit:lid<=itd:=by omega
  (simp only [go_sem,Cu];refine hK1 _ ?_;clear hK1 K1)
  refine BC (fun G4=>Pre H G4/\G4[id3]?=some (AA (cls :: ((AQ w).length:Int) :: AQ w))/\G4[itd]?=some (.m (Gx (some m) V.length (seen++[z]) V.length))/\G4[eid]?=some (.r ⟨3,1,true,A7 (Ye V seen)⟩)/\G4.all Cd=true) ?_ ?_
  ·exact ⟨hPG.set (by omega) _,by rw [gE5 (by omega)];exact g1,gEc (Br g2),by rw [gE5 hne];exact g3,C2 hokG rfl _⟩
  clear hPG g1 g2 g3 hokG
  rintro G4 ⟨hPG,g1,g2,g3,hokG⟩
  simp only
  (refine Wt ?_;(repeat clear hK K);repeat refine kq fun K hK=>?_)
  refine WB ?_
  (refine Wt ?_;(repeat clear hK K);repeat refine kq fun K hK=>?_)
  (refine Ai rfl ?_;intro K1 hK1;refine Ib (id:=itd) (mid:=m) (kv:=Y4 V) (since:=V.length) (seen:=seen) (i:=z) rfl rfl (by simp only [go_sem]) (by rw [Cu];exact g2) (hPG.at gm) (L3 V) (Gu V) hz ?_;simp only [go_sem];refine hK1 _ ?_;clear hK1 K1)
  (refine Wt ?_;(repeat clear hK K);repeat refine kq fun K hK=>?_)
  refine BC (fun G5=>Pre G4 G5/\G5[G4.length]?=some (.r ⟨3,1,true,A7 [e]⟩)/\G5.all Cd=true) ?_ ?_
  ·exact ⟨Pre.push _ _,Bp _ _,Bi hokG rfl⟩
  have hel:=Br g3
  rintro G5 ⟨hP5,g5,hok5⟩
  simp only
  obtain ⟨l4,hl4⟩:∃ l,G4.length=l:=⟨_,rfl⟩
  rw [hl4] at g5 hel ⊢
  have g5e:=hP5.at g3
  have hl45:=Br g5
  (refine Wu (an @g5 (an @g5e (an @List.set_cons_zero.{0} (an @List.set_cons_succ.{0} (an @List.take_succ_cons.{0} (an @List.take_zero.{0} (an @List.drop_zero.{0} (an @List.length_take.{0} (an @List.length_drop.{0} (an @List.length_append.{0} (an @A4 (an @Az (an @AN (an @Bm (an @A5 (an @AU (an @AE (an @B1 (an @AG @AM))))))))))))))))))) ?_;(repeat clear hK K);repeat refine kq fun K hK=>?_)
  have hevl2:(Ye V seen).length+1=(Ye V (seen++[z])).length:=by rw [hev];simp
  refine BC (fun G6=>Pre H G6/\G6[id3]?=some (AA (cls :: ((AQ w).length:Int) :: AQ w))/\G6[itd]?=some (.m (Gx (some m) V.length (seen++[z]) V.length))/\G6[G5.length]?=some (AA (Ye V (seen++[z])))/\G6.all Cd=true) ?_ ?_
  ·have hq1:=hPG.1
   refine ⟨((hPG.trans hP5).set (by omega) _).trans (Pre.push _ _),(Pre.push _ _).at ?_,(Pre.push _ _).at ?_,?_,Bi (C2 hok5 rfl _) (Dr _)⟩
   ·rw [gE5 (by omega)];exact hP5.at g1
   ·rw [gE5 (Ne.symm hne)];exact hP5.at g2
   ·have:=Bp (G5.set eid Ob.d) (AA (Ye V (seen++[z])))
    rw [List.length_set] at this
    rw [hev] at this ⊢
    rw [List.take_length]
    simp [AA]
  rintro G6 ⟨hP6,h6a,h6b,h6c,hok6⟩
  simp only
  rw [hevl2]
  have hi5:id3<G5.length:=by omega
  generalize G5.length=eid2 at *
  refine WD ?_
  refine hK _ (seen++[z],G6,eid2) ⟨hP6,h6a,h6b,h6c,hi5,⟨?_,?_⟩,hok6⟩ ?_ ?_
  rotate_left 2
  ·simp only [List.length_append,List.length_cons,List.length_nil];omega
  ·exact WE
  ·rw [List.nodup_append];exact ⟨hsn,by simp,fun a ha b hb=>by simp only [List.mem_singleton] at hb;rw [hb];rintro rfl;exact hzn ha⟩
  intro y hy
  rcases List.mem_append.1 hy with h | h
  ·exact hsb y h
  simp only [List.mem_singleton] at h;subst h;exact hzl
 intro hall
 rw [Cu] at hall
 have hperm:=Qs hsn hsb hall
 have hel:(Ye V seen).length<=100000000:=by rw [hperm.length_eq,List.length_map];omega
 (simp only [go_sem];refine hK1 _ ?_;clear hK1 K1)
 (refine Wt ?_;(repeat clear hK K);repeat refine kq fun K hK=>?_)
 refine WC ?_
 (refine Wx ?_;repeat clear hK K)
 (refine Wt ?_;(repeat clear hK K);repeat refine kq fun K hK=>?_)
 (refine Ai rfl ?_;intro K1 hK1;refine O9 (a:=eid) (L:=Ye V seen) rfl rfl (by simp only [go_sem]) g3 hel (by simp [Fi,AV.nb,A0.nb,C.nb]) ?_;intro ES hES1 hES2;simp only [go_sem];refine hK1 _ ?_;clear hK1 K1)
 have hperm2:=hES1.trans hperm
 have hESl:ES.length=V.length:=by rw [hperm2.length_eq,List.length_map]
 have hESn:ES.Nodup:=hperm2.nodup_iff.2 hnd
 have hESa:WI ES:=by
  unfold WI
  refine (hES2.and hESn).imp fun {a b} h=>?_
  obtain ⟨h1,h2⟩:=h
  omega
 have hESm:∀ e,e∈ES↔∃ p∈V,p.1=e:=fun e=>by rw [hperm2.mem_iff,List.mem_map]
 refine BC (fun G4=>Pre H G4/\G4[id3]?=some (AA (cls :: ((AQ w).length:Int) :: AQ w))/\G4[eid]?=some (AA ES)/\G4.all Cd=true) ?_ ?_
 ·have:=hPG.1
  exact ⟨hPG.set (by omega) _,by rw [gE5 (by omega)];exact g1,gEc (Br g3),C2 hokG (Dr _) _⟩
 have hlide:lid<=eid:=by have:=hPG.1;omega
 clear hPG g1 g2 g3 hokG
 rintro G ⟨hPG,g1,g3,hokG⟩
 simp only
 have hevl:(Ye V seen).length=ES.length:=hES1.length_eq.symm
 rw [hevl]
 (refine Wt ?_;(repeat clear hK K);repeat refine kq fun K hK=>?_)
 have e0:2+(AQ w).length=(FM cls w ((ES.take 0).map (Yg V))).length:=by simp [FM];omega
 refine A8 (fun x:Nat × List Ob × Nat=>{ tm:=[(0,.a (.c (.p yb 0))),(2,.i c),(8,.a (.c (.s x.2.2 (FM cls w ((ES.take x.1).map (Yg V))).length))),(45,.a (.c (.s eid ES.length))),(46,.i ES.length),(47,.i x.1)],hp:=x.2.1,n:=72,pin:=lid }) (fun x=>x.1<=ES.length/\Pre H x.2.1/\x.2.1[x.2.2]?=some (AA (FM cls w ((ES.take x.1).map (Yg V))))/\x.2.1[eid]?=some (AA ES)/\x.2.2 ≠ eid/\lid<=x.2.2/\x.2.1.all Cd=true) (fun x=>ES.length - x.1) (0,G,id3) ?_ ?_ ?_
 ·exact ⟨by simp,hPG,by simpa [FM] using g1,g3,by simp only;omega,by simp only;omega,hokG⟩
 ·rw [<- e0]
  exact WE
 clear hPG g1 g3 hokG e0
 rintro ⟨j,G,nid⟩ ⟨hj,hPG,g1,g3,hne2,hlin,hokG⟩ K hK
 simp only at hj hPG g1 g3 hne2 hlin hokG
 simp only
 have hkl:=Qt cls w ((ES.take j).map (Yg V))
 rw [List.length_map,List.length_take] at hkl
 by_cases hlj:j<ES.length
 rotate_left
 ·have d1:decide ((j:Int)<(ES.length:Int))=false:=by simpa using hlj
  have hje:ES.take j=ES:=gE7 (by omega)
  rw [hje] at g1 hkl ⊢
  (refine Wu @d1 ?_;(repeat clear hK K);repeat refine kq fun K hK=>?_)
  refine WC ?_
  (refine Wx ?_;repeat clear hK K)
  (refine Wt ?_;(repeat clear hK K);repeat refine kq fun K hK=>?_)
  (refine Ai rfl ?_;intro K1 hK1;refine SK (a:=nid) (L:=FM cls w (ES.map (Yg V))) rfl rfl (by simp only [go_sem]) g1 (by omega) (by simp [Fi,AV.nb,A0.nb,C.nb]) ?_;simp only [go_sem];refine hK1 _ ?_;clear hK1 K1)
  (refine Wt ?_;(repeat clear hK K);repeat refine kq fun K hK=>?_)
  subst hlid
  refine WH Tryz.results78 ?_
  refine ⟨⟨ES.map (Yg V),?_,fun q=>?_,rfl⟩,hPG,hokG⟩
  ·rw [List.map_map]
   have:(Prod.fst ∘ Yg V)=id:=rfl
   simpa [Function.comp_def,Yg] using hESa
  rw [List.mem_map]
  constructor
  rotate_left
  ·rintro ⟨p,hp,rfl⟩
   exact ⟨p.1,(hESm _).2 ⟨p,hp,rfl⟩,by unfold Yg;rw [Oa hnd hp]⟩
  rintro ⟨e,he,rfl⟩
  obtain ⟨p,hp,rfl⟩:=(hESm e).1 he
  exact ⟨p,hp,by unfold Yg;rw [Oa hnd hp]⟩
 have d1:decide ((j:Int)<(ES.length:Int))=true:=by simpa using hlj
 obtain ⟨p,hp,hpe⟩:=(hESm _).1 (gE6 hlj)
 have gE:=Am (gE1 hlj)
 have gE2:=Aq (gE1 hlj)
 have hwd:=Oa hnd hp
 have htk:(ES.take (j+1)).map (Yg V)=(ES.take j).map (Yg V)++[(p.1,p.2.2)]:=by
  rw [gE8 hlj,List.map_append,<- hpe,List.map_cons,List.map_nil]
  unfold Yg
  rw [hwd]
 obtain ⟨hp1,hp2⟩:=hV p hp
 obtain ⟨jj,hf⟩:=FO hnd hp rfl 0
 rw [<- hpe] at gE gE2
 have hks:=Oc cls w ((ES.take j).map (Yg V)) (p.1,p.2.2)
 rw [<- htk] at hks
 simp only at hks
 obtain ⟨e,pk,pw⟩:=p
 simp only at hp1 hp2 gE gE2 hf hks
 have hbl2:=CP pw
 generalize FM cls w ((ES.take j).map (Yg V))=L0 at *
 have g3':G[eid]?=some (.r ⟨3,1,true,A7 ES⟩):=g3
 (refine Wu @d1 ?_;(repeat clear hK K);repeat refine kq fun K hK=>?_)
 refine WB ?_
 (refine Wu (an @g3' (an @gE2 (an @A5 (an (hPG.at hyb) (an (hPG.at hvi) (an @hvl @gv)))))) ?_;(repeat clear hK K);repeat refine kq fun K hK=>?_)
 (refine Ai rfl ?_;intro K1 hK1;refine Ci (id:=m) (kv:=Y4 V) (zv:=.slice none 0 0) Tryz.underlying138 (EQ Tryz.underlying3) rfl rfl rfl (by simp only [go_sem]) (hPG.at gm) (Gu V) (by simp only [go_sem,EP]) (LT e) hf ?_;simp only [go_sem,XX];refine hK1 _ ?_;clear hK1 K1)
 (refine Wt ?_;(repeat clear hK K);repeat refine kq fun K hK=>?_)
 (refine Ai rfl ?_;intro K1 hK1;refine L1 (a:=pk) (w:=pw) rfl rfl (by simp only [go_sem]) (hPG.at hp1) hp2 (by simp [Fi,AV.nb,A0.nb,C.nb]) ?_;simp only [go_sem];refine hK1 _ ?_;clear hK1 K1)
 refine BC (fun G4=>Pre G G4/\G4[G.length]?=some (AA (AQ pw))/\G4.all Cd=true) ?_ ?_
 ·exact ⟨Pre.push _ _,Bp _ _,Bi hokG (Dr _)⟩
 have hnl:=Br g1
 have hel:=Br g3
 rintro G4 ⟨hP4,gb,hok4⟩
 simp only
 obtain ⟨lb,hlb⟩:∃ l,G.length=l:=⟨_,rfl⟩
 rw [hlb] at gb hnl hel ⊢
 (refine Wt ?_;(repeat clear hK K);repeat refine kq fun K hK=>?_)
 refine BC (fun G5=>Pre G4 G5/\G5[G4.length]?=some (AA [e,(AQ pw).length])/\G5.all Cd=true) ?_ ?_
 ·exact ⟨Pre.push _ _,Bp _ _,Bi hok4 rfl⟩
 have hll4:=Br gb
 rintro G5 ⟨hP5,gc5,hok5⟩
 simp only
 obtain ⟨l2,hl2⟩:∃ l,G4.length=l:=⟨_,rfl⟩
 rw [hl2] at gc5 hll4 ⊢
 have g1a:G5[nid]?=some (.r ⟨3,1,true,A7 L0⟩):=hP5.at (hP4.at g1)
 have gca:G5[l2]?=some (.r ⟨3,1,true,A7 [e,(AQ pw).length]⟩):=gc5
 have hl25:=Br gca
 (refine Wu (an @g1a (an @gca (an @List.set_cons_zero.{0} (an @List.set_cons_succ.{0} (an @List.take_succ_cons.{0} (an @List.take_zero.{0} (an @List.drop_zero.{0} (an @List.length_take.{0} (an @List.length_drop.{0} (an @List.length_append.{0} (an @A4 (an @Az (an @AN (an @Bm (an @A5 (an @AU (an @AE (an @B1 (an @AG @AM))))))))))))))))))) ?_;(repeat clear hK K);repeat refine kq fun K hK=>?_)
 refine BC (fun G6=>Pre H G6/\G6[G5.length]?=some (.r ⟨3,1,true,A7 (L0++[e,((AQ pw).length:Int)])⟩)/\G6[lb]?=some (.r ⟨3,1,true,A7 (AQ pw)⟩)/\G6[eid]?=some (AA ES)/\G6.all Cd=true) ?_ ?_
 ·have hPH:=((hPG.trans hP4).trans hP5)
  refine ⟨(hPH.set (by omega) _).trans (Pre.push _ _),?_,?_,?_,Bi (C2 hok5 rfl _) ?_⟩
  ·have:=Bp (G5.set nid Ob.d) (.r ⟨3,1,true,A7 (L0++[e,((AQ pw).length:Int)])⟩)
   rw [List.length_set] at this
   simpa only [List.take_length] using this
  ·refine (Pre.push _ _).at ?_
   rw [gE5 (by omega)];exact hP5.at gb
  ·refine (Pre.push _ _).at ?_
   rw [gE5 hne2];exact hP5.at (hP4.at g3)
  ·exact Dr _
 rintro G6 ⟨hP6,g6a,g6b,g6c,hok6⟩
 simp only
 obtain ⟨l3,hl3⟩:∃ l,G5.length=l:=⟨_,rfl⟩
 rw [hl3] at g6a hl25 ⊢
 have hl36:=Br g6a
 (refine Wu (an @g6a (an @g6b (an @List.set_cons_zero.{0} (an @List.set_cons_succ.{0} (an @List.take_succ_cons.{0} (an @List.take_zero.{0} (an @List.drop_zero.{0} (an @List.length_take.{0} (an @List.length_drop.{0} (an @List.length_append.{0} (an @A4 (an @Az (an @AN (an @Bm (an @A5 (an @AU (an @AE (an @B1 (an @AG @AM))))))))))))))))))) ?_;(repeat clear hK K);repeat refine kq fun K hK=>?_)
 have hkl3:L0.length+2+(AQ pw).length=(FM cls w ((ES.take (j+1)).map (Yg V))).length:=by rw [hks];simp;omega
 refine BC (fun G7=>Pre H G7/\G7[G6.length]?=some (AA (FM cls w ((ES.take (j+1)).map (Yg V))))/\G7[eid]?=some (AA ES)/\G7.all Cd=true) ?_ ?_
 ·refine ⟨(hP6.set (by omega) _).trans (Pre.push _ _),?_,?_,Bi (C2 hok6 rfl _) (Dr _)⟩
  ·have:=Bp (G6.set l3 Ob.d) (AA (FM cls w ((ES.take (j+1)).map (Yg V))))
   rw [List.length_set] at this
   rw [hks] at this ⊢
   have hL2:List.take (L0.length+2) (L0++[e,((AQ pw).length:Int)])=L0++[e,((AQ pw).length:Int)]:=gE7 (by simp)
   rw [hL2,List.take_length]
   simp [AA]
  ·refine (Pre.push _ _).at ?_
   rw [gE5 (by omega)];exact g6c
 rintro G7 ⟨hP7,g7a,g7b,hok7⟩
 simp only
 have hG6l:lid<=G6.length/\G6.length ≠ eid:=by
  have h1:=hP6.1
  have h2:=Br g6c
  constructor
  ·omega
  omega
 rw [hkl3]
 generalize G6.length=nid2 at *
 refine WD ?_
 refine hK _ (j+1,G7,nid2) ⟨by simp only;omega,hP7,g7a,g7b,hG6l.2,hG6l.1,hok7⟩ (by simp only;omega) ?_
 exact WE
def OW (n:Nat) (L:List Int):List Int:=L++List.replicate (n - L.length) 0
theorem Qu {n:Nat} {L:List Int} (h:L.length<=n):(OW n L).length=n:=by simp [OW];omega
theorem Qv {n:Nat} {L:List Int} (h:L.length<n) (x:Int):(OW n L).set L.length x=OW n (L++[x]):=by
 unfold OW
 obtain ⟨d,hd⟩:∃ d,n - L.length=d+1:=⟨n - L.length - 1,by omega⟩
 rw [hd,List.set_append_right _ _ (Nat.le_refl _),Nat.sub_self,List.replicate_succ,List.set_cons_zero,List.length_append,List.length_cons,List.length_nil,show n - (L.length+(0+1))=d from by omega]
 simp
theorem Oe (n:Nat):List.replicate n (C.v (.int .i64 0))=A7 (OW n []):=by simp [OW,A7]
theorem Of {n:Nat} {L:List Int} (h:L.length=n):OW n L=L:=by simp [OW,h]
section
variable {α : Type} [DecidableEq α]
set_option maxHeartbeats 2000000 in
theorem SN (ky:List Value) (g:Nat->α) (h:Tu ky g) (hn:ky.length<=1000000):FC Tryz.prog 76 [.a (.c (.s 0 ky.length))] [.r ⟨9,1,true,ZG ky⟩] (fun r o=>r=.tup [.c (.s 1 ky.length),.c (.v (.int .i64 (Xh g ky.length).2))]/\o=[.r ⟨9,1,true,ZG ky⟩,AA (Xh g ky.length).1]):=by
 refine A6 Tryz.func76 rfl (by rw [Tryz.ntmps76];simp) ?_
 rw [Tryz.ntmps76]
 simp only [Bf]
 (refine Wu @Oe ?_;(repeat clear hK K);repeat refine kq fun K hK=>?_)
 refine A8 (fun k:Nat=>{ tm:=[(4,.a (.c (.m 1))),(5,.a (.c (.s 2 ky.length))),(14,.a (.c (.s 0 ky.length))),(15,.i ky.length),(16,.i k)],hp:=[.r ⟨9,1,true,ZG ky⟩,.m (XZ ky g k),.r ⟨3,1,true,A7 (OW ky.length (Xh g k).1)⟩],n:=42,pin:=1 }) (fun k=>k<=ky.length) (fun k=>ky.length - k) 0 ?_ ?_ ?_
 ·omega
 ·exact WE
 rintro k hk K hK
 by_cases hlt:k<ky.length
 rotate_left
 ·have d1:decide ((k:Int)<(ky.length:Int))=false:=by simpa using hlt
  have hke:k=ky.length:=by omega
  have hkl:=NU ky g k
  have hnl:=(Cx g k).len
  have hitk:Pe (XZ ky g k)=false:=by obtain ⟨M,hM⟩:=Hw ky g k;rw [hM];exact Rj M
  rw [<- hke]
  rw [<- hke] at d1
  rw [Of hnl]
  (refine Wu @d1 ?_;(repeat clear hK K);repeat refine kq fun K hK=>?_)
  refine WC ?_
  (refine Wx ?_;repeat clear hK K)
  (refine Wt ?_;(repeat clear hK K);repeat refine kq fun K hK=>?_)
  (refine Ai rfl ?_;intro K1 hK1;refine KV (id:=1) (kv:=XZ ky g k) Tryz.underlying128 rfl rfl rfl rfl rfl (by simp only [go_sem]) rfl hitk ?_;simp only [go_sem,hkl];refine hK1 _ ?_;clear hK1 K1)
  (refine Wt ?_;(repeat clear hK K);repeat refine kq fun K hK=>?_)
  ((try refine Av ?_);(try simp only [Ae,AF]);refine B6 (A9 [0,2] rfl rfl) ?_;(try simp only [List.set_nil,List.take_nil,List.take_zero,List.map_append,go_sem]);((try refine Av ?_);(try refine Aa ?_);(try simp only [Ae,AF]);refine Bj (by first | exact .inl rfl | exact .inr rfl) rfl ?_;simp only [VU,Dy,Du,DL,Tryz.results76,go_sem,true_and,and_true,Af,Fd,AA]))
  rw [hke];exact ⟨rfl,rfl⟩
 have d1:decide ((k:Int)<(ky.length:Int))=true:=by simpa using hlt
 have gk:=Sp hlt
 have hft:=So h hlt
 have hcl:=(Cx g k).cnt
 have hpl:=Ug ky g k
 have hkl:=NU ky g k
 have hnl:=(Cx g k).len
 have hfd:=Qc h hlt k hk
 have hfl:=Qu (n:=ky.length) (L:=(Xh g k).1) (by omega)
 have hfs:=Qv (n:=ky.length) (L:=(Xh g k).1) (by omega)
 rw [hnl] at hfs
 (refine Wu (an @Gt @d1) ?_;(repeat clear hK K);repeat refine kq fun K hK=>?_)
 refine WB ?_
 cases hf:(List.range k).find? (fun t=>decide (g t=g k)) with
 | some t0=>
  have h2:=List.find?_range_eq_some.1 hf
  have h3:t0<k:=by simpa using h2.2.1
  have h4:g t0=g k:=by simpa using h2.1
  have hkv:XZ ky g (k+1)=XZ ky g k:=EH hf
  have hng:=Do hf
  obtain ⟨t,a1,a2,j,a3⟩:∃ t,t<k/\g t=g k/\∃ j,BJ .ks (ky.getD k (.int .i64 0)) (XZ ky g k) 0=some (some (j,.v (.int .i64 ((Xh g k).1.getD t 0)))):=by
   rcases hfd with h | ⟨a1,_⟩
   ·exact h
   exact absurd h4 (a1 t0 h3)
  have he:(Xh g k).1.getD t 0=(Xh g k).1.getD t0 0:=((Cx g k).eq t t0 a1 h3).2 (a2.trans h4.symm)
  rw [he] at a3
  have cs:=hfs ((Xh g k).1.getD t0 0)
  obtain ⟨M,hM⟩:=Hw ky g k
  generalize XZ ky g k=kv at *
  subst hM
  generalize Xh g k=p at *
  generalize ky.getD k (.int .i64 0)=kk at *
  (refine Wu (an @Gt @gk) ?_;(repeat clear hK K);repeat refine kq fun K hK=>?_)
  (refine Ai rfl ?_;intro K1 hK1;refine Ci (id:=1) (kv:=M.map fun p=>(p.1,C.v p.2)) (zv:=.int .i64 0) Tryz.underlying128 (J9 Tryz.underlying9) rfl rfl rfl (by simp only [go_sem]) rfl hpl (by simp only [go_sem,EP]) hft a3 ?_;simp only [go_sem,XX];refine hK1 _ ?_;clear hK1 K1)
  (refine Wu @Bool.not_true ?_;(repeat clear hK K);repeat refine kq fun K hK=>?_)
  refine WC ?_
  (refine Cn (an @A5 (an @hfl (an @AK @cs))) ?_;(repeat clear hK K);repeat refine kq fun K hK=>?_)
  refine WD ?_
  refine hK _ (k+1) (by omega) (by omega) ?_
  rw [hkv,hng]
  exact WE
 | none=>
  have hno:=List.find?_range_eq_none.1 hf
  have hkv:=EI (ky:=ky) hf
  have hng:=Dp hf
  have a2:BJ .ks (ky.getD k (.int .i64 0)) (XZ ky g k) 0=some none:=by
   rcases hfd with ⟨t,a1,a2,_⟩ | ⟨_,a2⟩
   ·exact absurd a2 (by simpa using hno t a1)
   exact a2
  have cs:=hfs (Xh g k).2
  obtain ⟨M,hM⟩:=Hw ky g k
  generalize XZ ky g k=kv at *
  subst hM
  generalize Xh g k=p at *
  generalize ky.getD k (.int .i64 0)=kk at *
  (refine Wu (an @Gt @gk) ?_;(repeat clear hK K);repeat refine kq fun K hK=>?_)
  (refine Ai rfl ?_;intro K1 hK1;refine Ci (id:=1) (kv:=M.map fun p=>(p.1,C.v p.2)) (zv:=.int .i64 0) Tryz.underlying128 (J9 Tryz.underlying9) rfl rfl rfl (by simp only [go_sem]) rfl hpl (by simp only [go_sem,EP]) hft a2 ?_;simp only [go_sem,XX];refine hK1 _ ?_;clear hK1 K1)
  (refine Wu @Bool.not_false ?_;(repeat clear hK K);repeat refine kq fun K hK=>?_)
  refine WB ?_
  (refine Wt ?_;(repeat clear hK K);repeat refine kq fun K hK=>?_)
  (refine Ai rfl ?_;intro K1 hK1;refine KV (id:=1) (kv:=M.map fun p=>(p.1,C.v p.2)) Tryz.underlying128 rfl rfl rfl rfl rfl (by simp only [go_sem]) rfl (Rj _) ?_;simp only [go_sem,hkl];refine hK1 _ ?_;clear hK1 K1)
  (refine Wt ?_;(repeat clear hK K);repeat refine kq fun K hK=>?_)
  (refine Ai rfl ?_;intro K1 hK1;refine GY (id:=1) (kv:=M.map fun p=>(p.1,C.v p.2)) (c:=.v (.int .i64 p.2)) Tryz.underlying128 (J9 Tryz.underlying9) rfl rfl (by simp only [go_sem]) rfl hpl (by simp only [go_sem,EP]) hft (by simp only [go_sem]) rfl a2 ?_;simp only [go_sem];refine hK1 _ ?_;clear hK1 K1)
  (refine Cn (an @A5 (an @hfl (an @AK @cs))) ?_;(repeat clear hK K);repeat refine kq fun K hK=>?_)
  refine WD ?_
  refine hK _ (k+1) (by omega) (by omega) ?_
  rw [hkv,hng]
  exact WE
end
end Go.Proofs.YtjijjfkalheokaaGreatDoor
