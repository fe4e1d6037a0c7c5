/- Lemmas. -/
import Derived.Test.YtbnabodoabimnaaGreatNm3
import Derived.Test.YtbnabodoabimnaaGreatMD
import Derived.Test.YtbnabodoabimnaaGreatMF
import Derived.Test.YtbnabodoabimnaaGreatMlz
import Derived.Test.YtbnabodoabimnaaGreatG11
import Derived.Test.YtbnabodoabimnaaGreatZk
import Derived.Test.YtbnabodoabimnaaGreatG47
import Derived.Test.YtbnabodoabimnaaGreatMnt
namespace Go.Proofs.YtbnabodoabimnaaGreat
set_option linter.unusedVariables false
set_option linter.unusedSimpArgs false
open Go.RowKit

def Ya (R:List (List Ar)):List Xh:=R.map fun r=>(r,[],false)
theorem KZ:∀ {N:List Xh} {f:Int} {i:Nat},XM f i N=XM f i (Ya (N.map (·.1)))
 | [],_,_=>rfl
 | x :: N,f,i=>by
  rw [show Ya ((x :: N).map (·.1))=(x.1,[],false) :: Ya (N.map (·.1)) from rfl,XM,XM]
  split
  ·rfl
  ·simp only
   cases XL f x.1 with
   | none=>rfl
   | some g=>exact KZ
theorem L1 {n:Nat}:∀ (q:List Ar) {num old:List Int},NumInj num old->num.length=n->(∀ a∈q,0<=a.2/\a.2<(n:Int))->XL (old.length:Nat) (Bp q num old).2.2=some (((Bp q num old).2.1.length:Nat):Int)
 | [],_,_,_,_,_=>rfl
 | a :: q,num,old,hI,hn,hb=>by
  have ha:=hb a List.mem_cons_self
  have hI2:=hI.one (t:=a.2) ha.1 (by rw [hn];exact ha.2)
  have hl2:=DS num old a.2
  have ih:=L1 q hI2 (hl2.trans hn) fun b hbm=>hb b (gEf _ hbm)
  simp only [Bp,XL]
  have hv:(((AM num old a.2).1.getD a.2.toNat 0=(old.length:Int))/\(AM num old a.2).2.length=old.length+1)\/((AM num old a.2).1.getD a.2.toNat 0<(old.length:Int)/\(AM num old a.2).2.length=old.length):=by
   have htl:a.2.toNat<num.length:=by omega
   unfold AM
   split
   ·refine .inl ⟨?_,by simp⟩
    simp [gE2,htl]
   ·rename_i hneg
    refine .inr ⟨?_,rfl⟩
    simp only
    rw [gE2,gE1 htl,Option.getD_some] at hneg ⊢
    have:=(List.getElem?_eq_some_iff.1 (hI.inj _ _ (gE1 htl) (by omega))).1
    omega
  rcases hv with ⟨h1,h2⟩ | ⟨h1,h2⟩
  ·rw [h1,if_neg (by omega),if_pos (by omega)]
   rw [h2] at ih
   rw [show ((old.length:Nat):Int)+1=((old.length+1:Nat):Int) by omega]
   exact ih
  ·rw [if_neg (by omega),if_neg (by omega)]
   rw [h2] at ih
   exact ih
theorem PS {R:List (List Ar)} (hb:∀ r∈R,W9 (XK r)/\∀ a∈r,0<=a.2/\a.2<(R.length:Int)):∀ (f i:Nat) (num old:List Int) (out:List (List Ar)),NumOk R.length num old->NumInj num old->i=out.length->R.length<=f+i->
  (CO R f i num old out).1.take i=out/\XM (old.length:Nat) i (Ya ((CO R f i num old out).1.drop i))=true:=by
 intro f
 induction f with
 | zero=>
  intro i num old out hN hI hi hf
  simp only [CO]
  rw [gE7 (by omega),List.drop_eq_nil_of_le (by omega)]
  exact ⟨rfl,rfl⟩
 | succ f ih=>
  intro i num old out hN hI hi hf
  unfold CO
  split
  ·simp only
   rw [gE7 (by omega),List.drop_eq_nil_of_le (by omega)]
   exact ⟨rfl,rfl⟩
  rename_i s hs
  have hs0:=hN.st s (gE9 hs)
  have hsl:s.toNat<R.length:=by omega
  have hil:=(List.getElem?_eq_some_iff.1 hs).1
  have hg:R.getD s.toNat []=R[s.toNat]:=by rw [gE2,gE1 hsl];rfl
  obtain ⟨a1,a2⟩:=hb _ (gE6 hsl)
  rw [hg]
  generalize R[s.toNat]=q at *
  rw [CG (EN a1),CE]
  simp only
  have hN2:=NumOk.go q [] hN a2
  rw [CE] at hN2
  have hq:∀ a∈q,0<=a.2/\a.2<(num.length:Int):=fun a ha=>by rw [hN.len];exact a2 a ha
  have hI2:=H8 q hq hI
  have hnm:=L1 q hI hN.len a2
  obtain ⟨m1,m2⟩:=H9 (old:=old) q hq
  have hso:SortA (Bp q num old).2.2:=by
   refine EN ?_
   rw [m1]
   have:XK (q.map fun a=>(a.1,(Bp q num old).1.getD a.2.toNat 0))=XK q:=by unfold XK;rw [List.map_map];rfl
   rw [this];exact a1
  have hfo:(Bp q num old).2.2.foldl (fun acc a=>E5 a acc) []=(Bp q num old).2.2:=CG hso
  rw [hfo]
  obtain ⟨t1,t2⟩:=ih (i+1) _ _ (out++[(Bp q num old).2.2]) hN2 hI2 (by simp;omega) (by omega)
  generalize (CO R f (i+1) (Bp q num old).1 (Bp q num old).2.1 (out++[(Bp q num old).2.2])).1=Z at *
  have hZl:i<Z.length:=by
   have:=congrArg List.length t1
   rw [List.length_take,List.length_append,List.length_singleton] at this
   omega
  rw [gE8 hZl] at t1
  obtain ⟨u1,u2⟩:=List.append_inj t1 (by rw [List.length_take];omega)
  refine ⟨u1,?_⟩
  rw [List.drop_eq_getElem_cons hZl,List.cons.inj u2 |>.1]
  show XM _ _ ((_,[],false) :: Ya (Z.drop (i+1)))=true
  rw [XM,if_neg (by omega)]
  simp only
  rw [hnm]
  exact t2
theorem O4 {R:List (List Ar)} (h1:1<=R.length) (hb:∀ r∈R,W9 (XK r)/\∀ a∈r,0<=a.2/\a.2<(R.length:Int)):XM 1 0 (Ya (AZ R).1)=true:=by
 have:=(PS hb R.length 0 _ _ [] (NumOk.start h1) (NumInj.start h1) rfl (by omega)).2
 exact this
structure IdN (n f:Nat) (num old:List Int):Prop where
 len:num.length=n
 ol:old.length=f
 le:f<=n
 lo:∀ t,t<f->num[t]?=some (t:Int)
 hi:∀ t,f<=t->t<n->num[t]?=some (-1)
 od:∀ t,t<f->old[t]?=some (t:Int)
theorem SA {x y:Xh} {m:Int} (he:XK x.1=XK y.1) (hl:x.2=y.2):XT x m=XT y m:=by
 have h1:XR x.1 x.2.1=XR y.1 y.2.1:=by
  unfold XR XQ
  rw [he,hl]
 have h2:x.1.isEmpty=y.1.isEmpty:=by
  have:=congrArg List.length he
  rw [BS,BS] at this
  cases hx:x.1 <;> cases hy:y.1 <;> simp_all
 unfold XT
 rw [h1,h2,hl]
theorem MzP.valid {N out:List Xh} {cl:List Int} {m:Int} (hN:vaP N m) (hs:N.length<=255) (h:MzP N out cl):vaP out m:=by
 have hv:=hN.nv
 obtain ⟨p,num,hc,a2,a3,a4,rfl,rfl⟩:=h
 have h1:=hc.one hv.1
 have hcn:=hc.cnt
 have hle:=a2.le
 have hqb:=TV hv hc
 have hql:=Iw N p
 obtain ⟨num',k1,k2,k3,k4,k5,k6⟩:=GJ (R:=qN N p) (by rw [hql];exact h1) fun r hr a ha=>by have:=(hqb r hr).2 a ha;omega
 have hasc:∀ r∈qN N p,W9 (XK r):=fun r hr=>by
  obtain ⟨j,hj,rfl⟩:=List.mem_map.1 hr
  have hj:=List.mem_range.1 hj
  have hx:=hv.2.2 _ (hv.at (hc.idx hj).1)
  have:XK (DI N p.1 (p.1.idxOf (j:Int)))=XK (N.getD (p.1.idxOf (j:Int)) nz).1:=by unfold XK DI;rw [List.map_map];rfl
  rw [this];exact hx.1
 have hnm:=O4 (R:=qN N p) (by rw [hql];exact h1) fun r hr=>⟨hasc r hr,fun a ha=>by have:=(hqb r hr).2 a ha;omega⟩
 have hol:1<=(AZ (qN N p)).2.length:=by have:=(List.getElem?_eq_some_iff.1 k5).1;omega
 have hln:(Y6 N p (AZ (qN N p)).1 (AZ (qN N p)).2).length=(AZ (qN N p)).2.length:=by
  unfold Y6
  rw [List.length_zipWith]
  omega
 have hst:∀ x∈Y6 N p (AZ (qN N p)).1 (AZ (qN N p)).2,∃ s,s<N.length/\XK x.1=XK (N.getD s nz).1/\x.2=(N.getD s nz).2/\∀ a∈x.1,0<=a.2/\a.2<((AZ (qN N p)).2.length:Int):=fun x hx=>by
  obtain ⟨j,hj,rfl⟩:=List.getElem_of_mem hx
  have hj2:=hj
  rw [hln] at hj2
  have hjr:j<(AZ (qN N p)).1.length:=by omega
  rw [Su hj hjr hj2]
  obtain ⟨r1,r2⟩:=k6 j _ _ (gE1 hj2) (gE1 hjr)
  have hss:=a2.st _ (gE6 hj2)
  generalize (AZ (qN N p)).2[j]=s at *
  generalize (AZ (qN N p)).1[j]=r at *
  obtain ⟨sn,rfl⟩:∃ n:Nat,s=(n:Int):=⟨s.toNat,by omega⟩
  obtain ⟨i1,i2⟩:=hc.idx (j:=sn) (by omega)
  have hq:(qN N p).getD sn []=DI N p.1 (p.1.idxOf (sn:Int)):=by rw [gE2,Qx (by omega)];rfl
  rw [Int.toNat_natCast,hq] at r1 r2
  obtain ⟨b1,b2⟩:=Hu hv hc i1
  have hev:XK ((DI N p.1 (p.1.idxOf (sn:Int))).map fun a=>(a.1,num'.getD a.2.toNat 0))=XK (N.getD (p.1.idxOf (sn:Int)) nz).1:=by
   unfold XK DI
   rw [List.map_map,List.map_map];rfl
  have hso:SortA ((DI N p.1 (p.1.idxOf (sn:Int))).map fun a=>(a.1,num'.getD a.2.toNat 0)):=by
   refine EN ?_
   rw [hev]
   exact (hv.2.2 _ (hv.at i1)).1
  rw [CG b1,CG hso] at r1
  refine ⟨p.1.idxOf (sn:Int),i1,by unfold Y5;simp only;rw [r1,hev],rfl,fun a ha=>?_⟩
  unfold Y5 at ha
  simp only at ha
  rw [r1] at ha
  obtain ⟨b,hb,rfl⟩:=List.mem_map.1 ha
  obtain ⟨x,hx,hp⟩:=r2 b hb
  have:=(List.getElem?_eq_some_iff.1 (k2.inj _ x hx hp)).1
  simp only [gE2,hx,Option.getD_some]
  omega
 refine ⟨hN.1,by omega,by omega,?_,fun x hx=>?_,?_⟩
 ·refine Nat.le_trans (Jz (n:=1025) fun x hx=>?_) ?_
  ·obtain ⟨s,hs1,e1,_,_⟩:=hst x hx
   have:=(hv.2.2 _ (hv.at hs1)).2.1
   rw [<- BS,e1,BS];exact this
  have:(Y6 N p (AZ (qN N p)).1 (AZ (qN N p)).2).length*1025<=255*1025:=Nat.mul_le_mul (by omega) (Nat.le_refl _)
  omega
 ·obtain ⟨s,hs1,e1,e2,e3⟩:=hst x hx
  have hx2:=hv.2.2 _ (hv.at hs1)
  refine ⟨?_,?_⟩
  rotate_left
  ·rw [SA e1 e2]
   exact (hN.2.2.2.2.1 _ (hv.at hs1)).2
  refine Jx (by rw [e1];exact hx2.1) fun a ha=>?_
  have q1:a.1∈XK (N.getD s nz).1:=by rw [<- e1];exact List.mem_map.2 ⟨a,ha,rfl⟩
  obtain ⟨b,hb,eb⟩:=List.mem_map.1 q1
  have q2:=hx2.2.2.1 b hb
  have q3:=e3 a ha
  rw [hln]
  omega
 rw [KZ]
 have:(Y6 N p (AZ (qN N p)).1 (AZ (qN N p)).2).map (·.1)=(AZ (qN N p)).1:=by
  unfold Y6
  have key:∀ (A:List (List Ar)) (B:List Int),A.length=B.length->(List.zipWith (Y5 N p.1) A B).map (·.1)=A:=by
   intro A
   induction A with
   | nil=>intro B _;rfl
   | cons a A ih=>
    intro B hB
    cases B with
    | nil=>simp at hB
    | cons b B=>
     rw [List.zipWith_cons_cons,List.map_cons,ih B (by simpa using hB)];rfl
  exact key _ _ k4
 rw [this]
 exact hnm
set_option maxRecDepth 100000
theorem U0 {E:Nat->List Nat} {n:Nat} {L:List Nat} (h0:n∈L) (hc:∀ u∈L,∀ w∈E u,w∈L) {u:Nat} (h:Rc E n u):u∈L:=by
 induction h with
 | refl=>exact h0
 | tail _ h2 ih=>exact hc _ ih _ h2
def Yb (E:Nat->List Nat) (s:Nat):Nat->List Nat
 | 0=>[s]
 | k+1=>Yb E s k++(Yb E s k).flatMap E
theorem L2 {E:Nat->List Nat} {s:Nat}:∀ (k:Nat) {u:Nat},u∈Yb E s k->Rc E s u
 | 0,u,h=>by rw [List.mem_singleton.1 h];exact .refl s
 | k+1,u,h=>by
  rcases List.mem_append.1 h with q | q
  ·exact L2 k q
  ·obtain ⟨v,hv,hu⟩:=List.mem_flatMap.1 q
   exact (L2 k hv).tail hu
theorem U1 {R:List (List Ar)} {s k:Nat} {L:List Nat} (hl:L.Pairwise (· < ·)) (hb:∀ u∈L,u<R.length) (h0:s∈L) (hc:∀ u∈L,∀ w∈Wi true R u,w∈L) (hr:∀ u∈L,u∈Yb (Wi true R) s k):WL R s=L:=by
 refine G0 (Bu _ _) hl fun u=>?_
 show u∈WL R s↔_
 rw [CZ]
 exact ⟨fun ⟨_,h⟩=>U0 h0 hc h,fun h=>⟨hb u h,L2 k (hr u h)⟩⟩
theorem QC {R:List (List Ar)} {X:List Nat} {e:Int} {k:Nat} {L:List Nat} (hl:L.Pairwise (· < ·)) (hb:∀ u∈L,u<R.length) (h0:∀ v∈tg R X e,v∈L) (hc:∀ u∈L,∀ w∈Wi true R u,w∈L) (hr:∀ u∈L,∃ v∈tg R X e,u∈Yb (Wi true R) v k):EP R X e=L:=by
 refine G0 (Bu _ _) hl fun u=>?_
 show u∈EP R X e↔_
 rw [EJ]
 exact ⟨fun ⟨_,v,hv,h⟩=>U0 (h0 v hv) hc h,fun h=>⟨hb u h,by obtain ⟨v,hv,q⟩:=hr u h;exact ⟨v,hv,L2 k q⟩⟩⟩
def IB:List (List Ar):=[[(0,1),(0,2)],[(2,3)],[(3,3)],[]]
def O5:List Xh:=[([(2,1),(3,1)],[[2],[3]],false),([],[[]],false)]
theorem Uy:WL IB 0=[0,1,2]:=U1 (k:=3) (by decide) (by decide) (by decide) (by decide) (by decide)
theorem Uz:EP IB [0,1,2] 2=[3]:=QC (k:=3) (by decide) (by decide) (by decide) (by decide) (by decide)
theorem UA:EP IB [0,1,2] 3=[3]:=QC (k:=3) (by decide) (by decide) (by decide) (by decide) (by decide)
theorem QD:B8 IB 2 1=([[0,1,2],[3]],[([(2,1),(3,1)],[[2],[3]],false)]):=by
 have h0:B8 IB 2 0=([[0,1,2]],[]):=by show ([WL IB 0],[])=_;rw [Uy]
 have h1:(B8 IB 2 0).1[0]?=some [0,1,2]:=by rw [h0];rfl
 rw [C0 h1,h0]
 have e:Xf IB [0,1,2]=[2,3]:=by decide
 have e2:D2 (Xg IB [0,1,2])=[[2],[3]]:=by decide
 unfold Xn
 rw [if_neg (by decide),e,e2]
 unfold Xl LV
 simp only [List.foldl_cons,List.foldl_nil,Uz,UA]
 rfl
theorem U2:B8 IB 2 2=([[0,1,2],[3]],O5):=by
 have h1:(B8 IB 2 1).1[1]?=some [3]:=by rw [QD];rfl
 rw [C0 h1,QD]
 have e:Xf IB [3]=[]:=by decide
 have e2:D2 (Xg IB [3])=[[]]:=by decide
 unfold Xn
 rw [if_neg (by decide),e,e2]
 rfl
theorem PreE.mk {R:List (List Ar)} {m:Int} {K:Nat} {p:List (List Nat) × List Xh} (h:B8 R m K=p) (hl:p.1.length=K):PreE R m p:=
 ⟨K,h,hl,by rw [<- h];exact (O3 h hl).2.1 K (Nat.le_refl _)⟩
theorem U3:ClN O5 ([0,1],2):=⟨0,by decide,by decide⟩
theorem U4 {g:Gh} {w:World} {e:TypeId} {L:List Int} {y:Value} (hr:HR g [.r ⟨e,1,true,A9 L⟩] w) (h:CR g [.r ⟨e,1,true,A9 L⟩] w (.s 0 L.length) y):Rd (Ow [] g) w (.l 1 (Ac L)) y:=by
 obtain ⟨_,h1,A,rfl,h3,h4⟩:=h
 cases L with
 | nil=>exact Rd.e 1 A _
 | cons a r=>
  have hk:g.κ 0 ≠ 0:=by simp only [List.length_cons] at h1;omega
  have hlive:Lv [.r ⟨e,1,true,A9 (a :: r)⟩] g (.ob 0):=.inl ⟨_,rfl,hk⟩
  rcases hr.row 0 _ rfl with ⟨k1,_⟩ | ⟨_,_,arr,k3,k4,k5,k6,k7⟩
  ·exact absurd k1 hk
  have hA:=h3 hk
  subst hA
  refine Rd.l 1 (Ac (a :: r)) (g.γ (.ob 0)) 0 _ _ (fun j=>arr.getD j undef) (by rw [A2,Nat.mul_one]) (by simp) h1 (fun ho=>?_) (hr.lt hlive) (fun j t hj=>?_) (fun j t hj=>?_)
  ·rcases ho with ho | ⟨ℓ,hl,_⟩
   ·exact hr.md _ hlive ho
   cases ℓ with
   | ob id=>rcases hl with ⟨r,h,_⟩ | ⟨kv,h⟩ <;> simp at h
   | cl id j=>obtain ⟨r,k,cs,h,_⟩:=hl;simp at h
  ·have hjl:j<(A9 (a :: r)).length:=by rw [A4,<- A2 (a :: r)];exact (List.getElem?_eq_some_iff.1 hj).1
   have hja:j<arr.size:=Nat.lt_of_lt_of_le hjl k4
   rw [Nat.zero_add,cell_of_row w _ j arr _ (0,0) k3,gEd hja]
   simp [Array.getD,hja]
  have hjl:j<(a :: r).length:=by rw [<- A2 (a :: r)];exact (List.getElem?_eq_some_iff.1 hj).1
  rw [Al (gE1 hjl)] at hj
  cases hj
  obtain ⟨u,u1,u2⟩:=k7 j _ (At (gE1 hjl))
  have hu:u=.int .i64 (a :: r)[j]:=u2
  have hja:j<arr.size:=(Array.getElem?_eq_some_iff.1 u1).1
  have e1:arr.getD j undef=.int .i64 (a :: r)[j]:=by
   rw [gEd hja] at u1
   simp only [Array.getD,hja,dif_pos]
   exact (Option.some.inj u1).trans hu
  rw [e1];exact Rd.v _ rfl
theorem FC.inS {P:Program} {f:FuncId} {A A':List AV} {r0:Row} {val:Value} (hFC:FC P f A [] (fun r o=>o=[]/\r=.a (.c (.v val)))) (hmp:∀ (k:Nat × Nat) (cs:List Tr) (j:Nat),r0.cells[j]? ≠ some (C.o k cs))
  (hA:∀ (g:Gh) (w:World) (vals:List Value),HR g [.r r0] w->HQ g [.r r0] w A' vals->HQ g [] w A vals):
  FC P f A' [.r r0] (fun r o=>o=[.r r0]/\r=.a (.c (.v val))):=by
 intro g w vals hr hargs
 have noL:∀ (g:Gh) (ℓ:Loc),¬ Lv [] g ℓ:=by
  intro g ℓ hl
  cases ℓ with
  | ob id=>rcases hl with ⟨r,h,_⟩ | ⟨kv,h⟩ <;> simp at h
  | cl id j=>obtain ⟨r,k,cs,h,_⟩:=hl;simp at h
 have how:∀ b,Ow [] g b->Ow [.r r0] g b:=fun b ho=>by
  rcases ho with ho | ⟨ℓ,hl,_⟩
  ·exact .inl ho
  exact absurd hl (noL _ ℓ)
 have hHR:HR g [] w:=⟨hr.ml,fun ℓ hl=>absurd hl (noL _ ℓ),fun ℓ _ hl=>absurd hl (noL _ ℓ),fun id r h=>by simp at h,fun id r h=>by simp at h,hr.gl.keep (Nat.le_refl _) (fun _ _ _=>rfl) (fun k _ h=>how k h)⟩
 refine (hFC g w vals hHR (hA g w vals hr hargs)).mono ?_
 rintro en w' ⟨v,r,outs,g',rfl,⟨rfl,rfl⟩,h1,h2,h3,h4,h5⟩
 have hfx:∀ b,b<w.heap.size->w'.heap[b]?=w.heap[b]?:=fun b hb=>h5.block b hb (fun ⟨ℓ,hl,_⟩=>noL _ ℓ hl)
 have hmo:Mo g [.r r0] w g [.r r0] w' (fun _=>True):=⟨fun id h=>⟨h,rfl,rfl⟩,fun b _ h=>h,h5.size,fun b hb _=>hfx b hb,fun q _ hq r2 j k cs e1 e2=>⟨r2,e1,e2,fun hlt=>World.cell?_of_block (hfx _ hlt)⟩⟩
 refine ⟨v,.a (.c (.v val)),[.r r0],g,rfl,⟨rfl,rfl⟩,⟨fun b hb=>Nat.lt_of_lt_of_le (hr.ml b hb) h5.size,hr.md,hr.inj,fun id r2 e1=>?_,fun id kv e1=>?_,hmo.gl hr.gl⟩,⟨Nat.le_refl _,Ext.refl _ _⟩,fun ℓ hl=>.inl ⟨ℓ,hl,rfl⟩,h4,h5.mono fun k _ ⟨ℓ,hl,_⟩=>absurd hl (noL _ ℓ)⟩
 rotate_left
 ·cases id <;> simp at e1
 refine RowR.mo hmo e1 (hr.row id r2 e1) (fun h0=>hfx _ (hr.lt (.inl ⟨r2,e1,h0⟩))) (fun j k cs hj _=>?_)
 cases id with
 | zero=>
  simp at e1
  subst e1
  exact absurd hj (hmp k cs j)
 | succ id=>simp at e1
attribute [local go_sem] lga C.pl C.one
def Yc {α:Type} (a b:List α) (k:Nat):List α:=a.take k++b.drop k
theorem Hv {α:Type} (a b:List α):Yc a b 0=b:=by simp [Yc]
theorem JA {α:Type} {a b:List α} (h:b.length=a.length):Yc a b a.length=a:=by
 unfold Yc
 rw [gE7 (Nat.le_refl _),List.drop_of_length_le (by omega),List.append_nil]
theorem JB {α:Type} {a b:List α} (h:b.length=a.length) (k:Nat) (hk:k<=a.length):(Yc a b k).length=a.length:=by simp [Yc,h];omega
theorem JC {α:Type} {a b:List α} (h:b.length=a.length) {k:Nat} (hk:k<a.length):(Yc a b k).set k a[k]=Yc a b (k+1):=by
 unfold Yc
 have hl:(a.take k).length=k:=by rw [List.length_take];omega
 rw [List.drop_eq_getElem_cons (l:=b) (by omega),List.set_append_right _ _ (by rw [hl];exact Nat.le_refl _),hl,Nat.sub_self,List.set_cons_zero,gE8 hk,List.append_assoc]
 rfl
theorem L3 (ky:List Value) (f:Nat->Nat):(Y0 ky).map (C.up f)=Y0 ky:=by simp [Y0,C.up,Function.comp_def]
theorem SB (N:List Xh) (c:List Int):(Y1 N c).length=N.length:=by simp [Y1]
theorem PU (c:Int) (A:List Ar) (cl:List Int) (hA:A.length<=1000000) (hcl:cl.length<=1000000) (hb:∀ a∈A,0<=a.2/\a.2<(cl.length:Int)):FC Tryz.prog 119 [.i c,.a (.c (.t 2 (Aw A))),.a (.c (.s 0 cl.length))] [Be cl] (fun r o=>o=[Be cl]/\r=.a (.c (.v (Dg (c :: XV A cl))))):=by
 refine FC.inS (So c A cl hA hcl hb) (fun k cs j hj=>?_) fun g w vals hr ⟨hl,ha⟩=>⟨hl,fun i x hx=>?_⟩
 ·obtain ⟨x,_,hx⟩:=List.mem_map.1 (gE9 hj)
  cases hx
 have how:∀ b,Ow [] g b->Ow [Be cl] g b:=fun b ho=>by
  rcases ho with ho | ⟨ℓ,hl,_⟩
  ·exact .inl ho
  exfalso
  cases ℓ with
  | ob id=>rcases hl with ⟨r,h,_⟩ | ⟨kv,h⟩ <;> simp at h
  | cl id j=>obtain ⟨r,k,cs,h,_⟩:=hl;simp at h
 match i,hx with
 | 0,hx=>
  cases hx
  obtain ⟨v,h1,h2⟩:=ha 0 _ rfl
  exact ⟨v,h1,h2⟩
 | 1,hx=>
  cases hx
  obtain ⟨v,h1,h2⟩:=ha 1 _ rfl
  exact ⟨v,h1,Rd.mono h2 fun _ _ ho=>how _ ho⟩
 | 2,hx=>
  cases hx
  obtain ⟨v,h1,h2⟩:=ha 2 _ rfl
  exact ⟨v,h1,U4 hr h2⟩
 | i+3,hx=>simp at hx
set_option maxHeartbeats 4000000 in
theorem SC (N:List Xh) (hv:NvB N):FC Tryz.prog 82 [aN N] [] (fun r o=>∃ p,ClN N p/\o=[Be p.1]/\r=.tup [.c (.s 0 N.length),.c (.v (.int .i64 p.2))]):=by
 have hN:=hv.2.1
 have hx:∀ x∈N,x.1.length<=10000/\x.2.1.length<=2000/\∀ s∈x.2.1,s.length<=2000:=fun x h=>by
  obtain ⟨_,h2,_,h4,h5⟩:=hv.2.2 x h
  exact ⟨by omega,by omega,fun s hs=>by have:=(h5 s hs).1;omega⟩
 have hky0:SX ((N.map XX).map Dg) (fun s=>(N.map XX).getD s []):=Qv _ fun y hy=>by
  obtain ⟨x,h,rfl⟩:=List.mem_map.1 hy
  obtain ⟨_,h2,h3,h4,h5⟩:=hv.2.2 x h
  exact TT (fun a ha=>by have:=h3 a ha;omega) (by omega) fun s hs=>⟨by have:=(h5 s hs).1;omega,(h5 s hs).2⟩
 refine A7 Tryz.func82 rfl (by rw [Tryz.ntmps82];simp) ?_
 rw [Tryz.ntmps82]
 simp only [B4,aN]
 (repeat (first | (refine AA ?_;intro K hK) | refine Ai ?_ | refine Ag ?_ | (refine AX rfl rfl ?_;intro K1 hK1;simp only [go_sem,Bz,Cw];(first | refine hK1 _ ?_ | refine AE (hK1 _ ?_));clear hK1 K1) | ((first | refine Aa ?_ | refine Am ?_);refine hK _ ?_;clear hK K)))
 obtain ⟨k0,hk0⟩:∃ k0,k0=N.map fun x=>Dg (XX x):=⟨_,rfl⟩
 obtain ⟨kz,hkz⟩:∃ kz,kz=List.replicate N.length (Value.string ⟨#[]⟩):=⟨_,rfl⟩
 have hl0:k0.length=N.length:=by rw [hk0,List.length_map]
 have hlz:kz.length=k0.length:=by rw [hkz,List.length_replicate,hl0]
 refine Ab (fun k:Nat=>{ tm:=[(0,.a (.c (.t 3 (tN N)))),(4,.a (.c (.s 0 N.length))),(16,.a (.c (.t 3 (tN N)))),(17,.i N.length),(18,.i k)],hp:=[.r ⟨9,1,true,Y0 (Yc k0 kz k)⟩],n:=65,pin:=0 }) (fun k=>k<=N.length) (fun k=>N.length - k) 0 ?_ ?_ ?_
 ·omega
 ·have hz:Y0 kz=List.replicate N.length (C.v (.string ⟨#[]⟩)):=by rw [hkz];simp [Y0]
  rw [Hv,hz]
  (refine Bh ?_;simp only [CS,go_sem];try simp)
 rintro k hk K hK
 by_cases hlt:k<N.length
 ·have d1:decide ((k:Int)<(N.length:Int))=true:=by simpa using hlt
  have hat:=LF hlt
  have hb:=hx _ (gE6 hlt)
  have hks:=JC hlz (k:=k) (by omega)
  have hkv:k0[k]'(by omega)=Dg (XX N[k]):=by simp [hk0]
  rw [hkv] at hks
  have hml:=JB hlz k (by omega)
  rw [hl0] at hml
  generalize N[k]=x at *
  obtain ⟨A,V,dv⟩:=x
  simp only [Xo] at hat hb
  have hfi:=NT A V dv hb.1 hb.2.1 hb.2.2
  have hcl:(Y0 (Yc k0 kz k)).length=N.length:=by rw [G9,hml]
  generalize Yc k0 kz k=Q at *
  obtain ⟨sb,hsb⟩:∃ b,Dg (XX (A,V,dv))=Value.string b:=⟨_,rfl⟩
  rw [hsb] at hfi hks
  (repeat (first | (refine AA ?_;intro K hK) | refine Ai ?_ | refine Ag ?_ | (refine AX rfl rfl ?_;intro K1 hK1;simp only [go_sem,d1];(first | refine hK1 _ ?_ | refine AE (hK1 _ ?_));clear hK1 K1) | ((first | refine Aa ?_ | refine Am ?_);refine hK _ ?_;clear hK K)))
  (refine Ah ?_;intro X Y hX hY;simp only [go_sem])
  refine hX ?_
  clear hX hY X Y
  (repeat (first | (refine AA ?_;intro K hK) | refine Ai ?_ | refine Ag ?_ | (refine AX rfl rfl ?_;intro K1 hK1;simp only [go_sem,hat,Bz,Cw,ST.put,De,A0.cells];(first | refine hK1 _ ?_ | refine AE (hK1 _ ?_));clear hK1 K1) | ((first | refine Aa ?_ | refine Am ?_);refine hK _ ?_;clear hK K)))
  (refine Aj rfl ?_;intro K1 hK1;refine (Av (ids:=[]) (hfi) rfl rfl (by simp only [go_sem]) (by kernel_rfl) (by (simp only [List.append_nil,go_sem]) <;> rfl) ?_).stp)
  rintro _ _ ⟨rfl,rfl⟩
  (simp only [Ap,AC,List.append_nil,List.nil_append,List.length_map,go_sem];refine hK1 _ ?_;clear hK1 K1)
  (repeat (first | (refine AA ?_;intro K hK) | refine Ai ?_ | refine Ag ?_ | (refine AX rfl rfl ?_;intro K1 hK1;simp only [go_sem,hcl,ST.put,De,A0.cells,NV,hks];(first | refine hK1 _ ?_ | refine AE (hK1 _ ?_));clear hK1 K1) | ((first | refine Aa ?_ | refine Am ?_);refine hK _ ?_;clear hK K)))
  ((try refine Aa ?_);(try refine Am ?_);try simp only [Ad])
  refine hK _ (k+1) (by omega) (by omega) ?_
  refine Le.trans (A8 [0] rfl rfl) ?_
  simp only [go_sem,Co]
  (refine Bh ?_;simp only [CS,go_sem];try simp)
 have d1:decide ((k:Int)<(N.length:Int))=false:=by simpa using hlt
 have hkl:k=k0.length:=by omega
 rw [hkl,JA hlz]
 rw [List.map_map,show (Dg ∘ XX)=(fun x=>Dg (XX x)) from rfl,<- hk0] at hky0
 have hpa:=NW k0 _ hky0 (by omega)
 rw [hl0,show WE (fun s=>(N.map XX).getD s []) N.length=Y3 N 0 from rfl] at hpa
 rw [hkl,hl0] at d1
 rw [hl0]
 have hkI:∀ j,∃ g:Nat->List Int,WE g N.length=Y3 N j:=fun j=>by cases j <;> exact ⟨_,rfl⟩
 (repeat (first | (refine AA ?_;intro K hK) | refine Ai ?_ | refine Ag ?_ | (refine AX rfl rfl ?_;intro K1 hK1;simp only [go_sem,d1];(first | refine hK1 _ ?_ | refine AE (hK1 _ ?_));clear hK1 K1) | ((first | refine Aa ?_ | refine Am ?_);refine hK _ ?_;clear hK K)))
 (refine Ah ?_;intro X Y hX hY;simp only [go_sem])
 refine hY ?_
 clear hX hY X Y
 (refine Du ?_;simp only [Ad,Ay,reduceIte,Nat.reduceEqDiff];(first | refine hK _ ?_ | (clear hK K;refine hK _ ?_) | (clear hK K;clear hK K;refine hK _ ?_) | (clear hK K;clear hK K;clear hK K;refine hK _ ?_) | (clear hK K;clear hK K;clear hK K;clear hK K;refine hK _ ?_) | (clear hK K;clear hK K;clear hK K;clear hK K;clear hK K;refine hK _ ?_));clear hK K)
 (repeat (first | (refine AA ?_;intro K hK) | refine Ai ?_ | refine Ag ?_ | (refine AX rfl rfl ?_;intro K1 hK1;simp only [go_sem];(first | refine hK1 _ ?_ | refine AE (hK1 _ ?_));clear hK1 K1) | ((first | refine Aa ?_ | refine Am ?_);refine hK _ ?_;clear hK K)))
 (refine Aj rfl ?_;intro K1 hK1;refine Ax (ids:=[]) [0] (hpa) rfl rfl (by simp only [go_sem]) (by first | assumption | kernel_rfl) rfl rfl (by (simp only [List.map_append,List.append_nil,go_sem]) <;> rfl) (by (simp only [Vk,Co,go_sem]) <;> rfl) ?_ ?_)
 ·rintro _ _ ⟨rfl,rfl⟩;rfl
 rintro _ _ ⟨rfl,rfl⟩
 (simp only [Ap,AC,Be,Co,L3,AL,List.append_nil,List.nil_append,List.length_map,go_sem];refine hK1 _ ?_;clear hK1 K1)
 (repeat (first | (refine AA ?_;intro K hK) | refine Ai ?_ | refine Ag ?_ | (refine AX rfl rfl ?_;intro K1 hK1;simp only [go_sem];(first | refine hK1 _ ?_ | refine AE (hK1 _ ?_));clear hK1 K1) | ((first | refine Aa ?_ | refine Am ?_);refine hK _ ?_;clear hK K)))
 refine Ab (fun x:Nat × List Value=>{ tm:=[(0,.a (.c (.t 3 (tN N)))),(4,.a (.c (.s 0 N.length))),(7,.a (.c (.s 1 N.length))),(8,.i (Y3 N x.1).2)],hp:=[.r ⟨9,1,true,Y0 x.2⟩,Be (Y3 N x.1).1],n:=65,pin:=0 }) (fun x=>x.2.length=N.length) (fun x=>N.length - (Y3 N x.1).2) (0,k0) ?_ ?_ ?_
 ·exact hl0
 ·simp only [Be]
  (refine Bh ?_;simp only [CS,go_sem];try simp)
 rintro ⟨j,Q0⟩ hQ0 K hK
 simp only at hQ0 hK ⊢
 have hst:=PM N j
 obtain ⟨g,hg⟩:=hkI j
 have hok:=BK g N.length
 rw [hg] at hok
 obtain ⟨g1,hg1⟩:=hkI (j+1)
 have hok1:=BK g1 N.length
 rw [hg1] at hok1
 obtain ⟨c,hc⟩:∃ c,c=(Y3 N j).1:=⟨_,rfl⟩
 obtain ⟨n0,hn0⟩:∃ c,c=(Y3 N j).2:=⟨_,rfl⟩
 have hcn:c.length=N.length:=by rw [hc];exact hok.len
 have hcr:∀ x∈c,0<=x/\x<2147483648:=fun x hx=>by
  obtain ⟨s,hs,rfl⟩:=List.getElem_of_mem hx
  have h1:=hok.rng s (by omega)
  have h2:=hok.cnt
  rw [<- hc,gE2,gE1 hs,Option.getD_some] at h1
  omega
 obtain ⟨k1,hk1⟩:∃ k1,k1=(Y1 N c).map Dg:=⟨_,rfl⟩
 have hl1:k1.length=N.length:=by rw [hk1,List.length_map,SB]
 have hQl:Q0.length=k1.length:=by rw [hl1,hQ0]
 have hky1:SX k1 (fun s=>(Y1 N c).getD s []):=by
  rw [hk1]
  refine Qv _ fun y hy=>?_
  obtain ⟨s,hs,rfl⟩:=List.mem_map.1 hy
  have hs:=List.mem_range.1 hs
  have h3:=(hv.2.2 _ (hv.at hs)).2.2.1
  refine TS ?_ (fun a ha=>by have:=h3 a ha;omega) hcr
  have h1:=hok.rng s hs
  have h2:=hok.cnt
  rw [<- hc] at h1
  omega
 have hpb:=NW k1 _ hky1 (by omega)
 rw [hl1,show WE (fun s=>(Y1 N c).getD s []) N.length=Y3 N (j+1) from by rw [hc];rfl] at hpb
 rw [<- hc,<- hn0]
 simp only [Be]
 have hKo:=hK
 (repeat (first | (refine AA ?_;intro K hK) | refine Ai ?_ | refine Ag ?_ | (refine AX rfl rfl ?_;intro K1 hK1;simp only [go_sem,Bz,Cw];(first | refine hK1 _ ?_ | refine AE (hK1 _ ?_));clear hK1 K1) | ((first | refine Aa ?_ | refine Am ?_);refine hK _ ?_;clear hK K)))
 refine Ab (fun k:Nat=>{ tm:=[(0,.a (.c (.t 3 (tN N)))),(4,.a (.c (.s 0 N.length))),(7,.a (.c (.s 1 N.length))),(8,.i n0),(34,.a (.c (.t 3 (tN N)))),(35,.i N.length),(36,.i k)],hp:=[.r ⟨9,1,true,Y0 (Yc k1 Q0 k)⟩,Be c],n:=65,pin:=0 }) (fun k=>k<=N.length) (fun k=>N.length - k) 0 ?_ ?_ ?_
 ·omega
 ·rw [Hv]
  simp only [Be]
  (refine Bh ?_;simp only [CS,go_sem];try simp)
 rintro k hk K hK
 by_cases hlt:k<N.length
 ·have d2:decide ((k:Int)<(N.length:Int))=true:=by simpa using hlt
  have hat:=LF hlt
  have hb:=hx _ (gE6 hlt)
  have hb2:=(hv.2.2 _ (gE6 hlt)).2.2.1
  have hks:=JC hQl (k:=k) (by omega)
  have hkv:k1[k]'(by omega)=Dg (c.getD k 0 :: XV N[k].1 c):=by
   simp only [hk1,List.getElem_map]
   congr 1
   simp [Y1,gE2,hlt]
  rw [hkv] at hks
  have hml:=JB hQl k (by omega)
  rw [hl1] at hml
  have gc:=At (gE1 (show k<c.length by omega))
  have hgd:c.getD k 0=c[k]'(by omega):=by rw [gE2,gE1 (by omega)];rfl
  rw [hgd] at hks
  generalize c[k]'(by omega)=z at *
  generalize N[k]=x at *
  obtain ⟨A,V,dv⟩:=x
  simp only [Xo] at hat hb hb2
  have hke:=PU z A c (by omega) (by omega) (fun a ha=>by have:=hb2 a ha;omega)
  rw [hcn] at hke
  have hcl:(Y0 (Yc k1 Q0 k)).length=N.length:=by rw [G9,hml]
  have hci:(A9 c).length=N.length:=by rw [A4,hcn]
  simp only at hks
  generalize Yc k1 Q0 k=Q at *
  obtain ⟨sb,hsb⟩:∃ b,Dg (z :: XV A c)=Value.string b:=⟨_,rfl⟩
  rw [hsb] at hke hks
  simp only [Be] at hke ⊢
  (repeat (first | (refine AA ?_;intro K hK) | refine Ai ?_ | refine Ag ?_ | (refine AX rfl rfl ?_;intro K1 hK1;simp only [go_sem,d2];(first | refine hK1 _ ?_ | refine AE (hK1 _ ?_));clear hK1 K1) | ((first | refine Aa ?_ | refine Am ?_);refine hK _ ?_;clear hK K)))
  (refine Ah ?_;intro X Y hX hY;simp only [go_sem])
  refine hX ?_
  clear hX hY X Y
  (repeat (first | (refine AA ?_;intro K hK) | refine Ai ?_ | refine Ag ?_ | (refine AX rfl rfl ?_;intro K1 hK1;simp only [go_sem,hat,Bz,Cw,ST.put,De,A0.cells];(first | refine hK1 _ ?_ | refine AE (hK1 _ ?_));clear hK1 K1) | ((first | refine Aa ?_ | refine Am ?_);refine hK _ ?_;clear hK K)))
  (refine Af 9 [(0,0),(1,0),(2,0),(3,0),(4,0),(5,1),(6,0),(7,1),(8,0),(9,2),(10,0),(11,2)] (by kernel_rfl) (by kernel_rfl) (by intro c st h;simp [Ad,Ay,Vl] at h) ?_)
  (repeat (first | ((first | refine QP rfl rfl rfl ?_ | refine QQ rfl rfl rfl ?_);intro K1 hK1;simp only [go_sem,gc,hci,ST.put,De,A0.cells];(first | refine hK1 _ ?_ | refine AE (hK1 _ ?_));clear hK1 K1) | (refine QR rfl rfl rfl rfl ?_;intro K1 hK1;simp only [go_sem,gc,hci,ST.put,De,A0.cells];(first | refine hK1 _ ?_ | refine AE (hK1 _ ?_));clear hK1 K1) | (refine IR ?_;refine hK _ ?_;clear hK K)))
  (refine Vt rfl rfl rfl ?_;intro K1 hK1;refine Ax (ids:=[]) [1] (hke) rfl rfl (by simp only [go_sem]) (by first | assumption | kernel_rfl) rfl rfl (by (simp only [List.map_append,List.append_nil,go_sem]) <;> rfl) (by (simp only [Vk,A5,go_sem]) <;> rfl) ?_ ?_)
  ·rintro _ _ ⟨rfl,rfl⟩;rfl
  rintro _ _ ⟨rfl,rfl⟩
  (simp only [Ap,AC,L3,AL,List.append_nil,List.nil_append,List.length_map,go_sem];refine hK1 _ ?_;clear hK1 K1)
  (repeat (first | ((first | refine QP rfl rfl rfl ?_ | refine QQ rfl rfl rfl ?_);intro K1 hK1;simp only [go_sem,hcl,ST.put,De,A0.cells,NV,hks];(first | refine hK1 _ ?_ | refine AE (hK1 _ ?_));clear hK1 K1) | (refine QR rfl rfl rfl rfl ?_;intro K1 hK1;simp only [go_sem,hcl,ST.put,De,A0.cells,NV,hks];(first | refine hK1 _ ?_ | refine AE (hK1 _ ?_));clear hK1 K1) | (refine IR ?_;refine hK _ ?_;clear hK K)))
  (repeat (first | (refine AA ?_;intro K hK) | refine Ai ?_ | refine Ag ?_ | (refine AX rfl rfl ?_;intro K1 hK1;simp only [go_sem];(first | refine hK1 _ ?_ | refine AE (hK1 _ ?_));clear hK1 K1) | ((first | refine Aa ?_ | refine Am ?_);refine hK _ ?_;clear hK K)))
  ((try refine Aa ?_);(try refine Am ?_);try simp only [Ad])
  refine hK _ (k+1) (by omega) (by omega) ?_
  refine Le.trans (A8 [0,1] rfl rfl) ?_
  simp only [go_sem,Co,A5,Be]
  (refine Bh ?_;simp only [CS,go_sem];try simp)
 have d2:decide ((k:Int)<(N.length:Int))=false:=by simpa using hlt
 have hkl:k=k1.length:=by omega
 rw [hkl,JA hQl]
 rw [hkl,hl1] at d2
 rw [hl1]
 simp only [Be]
 obtain ⟨c2,hc2⟩:∃ c,c=(Y3 N (j+1)).1:=⟨_,rfl⟩
 obtain ⟨n2,hn2⟩:∃ c,c=(Y3 N (j+1)).2:=⟨_,rfl⟩
 rw [<- hc2,<- hn2] at hpb
 have hcn2:=hok1.cnt
 rw [<- hn2] at hcn2 hst
 rw [<- hn0] at hst
 by_cases he:n2=n0
 rotate_left
 ·have d3:((n2:Int) == (n0:Int))=false:=by simpa using fun e=>he (by omega)
  (repeat (first | (refine AA ?_;intro K hK) | refine Ai ?_ | refine Ag ?_ | (refine AX rfl rfl ?_;intro K1 hK1;simp only [go_sem,d2];(first | refine hK1 _ ?_ | refine AE (hK1 _ ?_));clear hK1 K1) | ((first | refine Aa ?_ | refine Am ?_);refine hK _ ?_;clear hK K)))
  (refine Ah ?_;intro X Y hX hY;simp only [go_sem])
  refine hY ?_
  clear hX hY X Y
  (refine Du ?_;simp only [Ad,Ay,reduceIte,Nat.reduceEqDiff];(first | refine hK _ ?_ | (clear hK K;refine hK _ ?_) | (clear hK K;clear hK K;refine hK _ ?_) | (clear hK K;clear hK K;clear hK K;refine hK _ ?_) | (clear hK K;clear hK K;clear hK K;clear hK K;refine hK _ ?_) | (clear hK K;clear hK K;clear hK K;clear hK K;clear hK K;refine hK _ ?_));clear hK K)
  (repeat (first | (refine AA ?_;intro K hK) | refine Ai ?_ | refine Ag ?_ | (refine AX rfl rfl ?_;intro K1 hK1;simp only [go_sem];(first | refine hK1 _ ?_ | refine AE (hK1 _ ?_));clear hK1 K1) | ((first | refine Aa ?_ | refine Am ?_);refine hK _ ?_;clear hK K)))
  (refine Aj rfl ?_;intro K1 hK1;refine Ax (ids:=[]) [0] (hpb) rfl rfl (by simp only [go_sem]) (by first | assumption | kernel_rfl) rfl rfl (by (simp only [List.map_append,List.append_nil,go_sem]) <;> rfl) (by (simp only [Vk,Co,go_sem]) <;> rfl) ?_ ?_)
  ·rintro _ _ ⟨rfl,rfl⟩;rfl
  rintro _ _ ⟨rfl,rfl⟩
  (simp only [Ap,AC,Be,Co,L3,AL,List.append_nil,List.nil_append,List.length_map,go_sem];refine hK1 _ ?_;clear hK1 K1)
  (repeat (first | (refine AA ?_;intro K hK) | refine Ai ?_ | refine Ag ?_ | (refine AX rfl rfl ?_;intro K1 hK1;simp only [go_sem,d3];(first | refine hK1 _ ?_ | refine AE (hK1 _ ?_));clear hK1 K1) | ((first | refine Aa ?_ | refine Am ?_);refine hK _ ?_;clear hK K)))
  (refine Ah ?_;intro X Y hX hY;simp only [go_sem])
  refine hY ?_
  clear hX hY X Y
  (repeat (first | (refine AA ?_;intro K hK) | refine Ai ?_ | refine Ag ?_ | (refine AX rfl rfl ?_;intro K1 hK1;simp only [go_sem];(first | refine hK1 _ ?_ | refine AE (hK1 _ ?_));clear hK1 K1) | ((first | refine Aa ?_ | refine Am ?_);refine hK _ ?_;clear hK K)))
  ((try refine Aa ?_);(try refine Am ?_);try simp only [Ad])
  refine hKo _ (j+1,k1) hl1 ?_ ?_
  ·simp only [<- hn2,<- hn0]
   have:=hst.1
   omega
  refine Le.trans (A8 [0,2] rfl rfl) ?_
  simp only [go_sem,Co,A5,Be,<- hc2,<- hn2]
  (refine Bh ?_;simp only [CS,go_sem];try simp)
 have d3:((n2:Int) == (n0:Int))=true:=by rw [he];exact beq_self_eq_true _
 (repeat (first | (refine AA ?_;intro K hK) | refine Ai ?_ | refine Ag ?_ | (refine AX rfl rfl ?_;intro K1 hK1;simp only [go_sem,d2];(first | refine hK1 _ ?_ | refine AE (hK1 _ ?_));clear hK1 K1) | ((first | refine Aa ?_ | refine Am ?_);refine hK _ ?_;clear hK K)))
 (refine Ah ?_;intro X Y hX hY;simp only [go_sem])
 refine hY ?_
 clear hX hY X Y
 (refine Du ?_;simp only [Ad,Ay,reduceIte,Nat.reduceEqDiff];(first | refine hK _ ?_ | (clear hK K;refine hK _ ?_) | (clear hK K;clear hK K;refine hK _ ?_) | (clear hK K;clear hK K;clear hK K;refine hK _ ?_) | (clear hK K;clear hK K;clear hK K;clear hK K;refine hK _ ?_) | (clear hK K;clear hK K;clear hK K;clear hK K;clear hK K;refine hK _ ?_));clear hK K)
 (repeat (first | (refine AA ?_;intro K hK) | refine Ai ?_ | refine Ag ?_ | (refine AX rfl rfl ?_;intro K1 hK1;simp only [go_sem];(first | refine hK1 _ ?_ | refine AE (hK1 _ ?_));clear hK1 K1) | ((first | refine Aa ?_ | refine Am ?_);refine hK _ ?_;clear hK K)))
 (refine Aj rfl ?_;intro K1 hK1;refine Ax (ids:=[]) [0] (hpb) rfl rfl (by simp only [go_sem]) (by first | assumption | kernel_rfl) rfl rfl (by (simp only [List.map_append,List.append_nil,go_sem]) <;> rfl) (by (simp only [Vk,Co,go_sem]) <;> rfl) ?_ ?_)
 ·rintro _ _ ⟨rfl,rfl⟩;rfl
 rintro _ _ ⟨rfl,rfl⟩
 (simp only [Ap,AC,Be,Co,L3,AL,List.append_nil,List.nil_append,List.length_map,go_sem];refine hK1 _ ?_;clear hK1 K1)
 (repeat (first | (refine AA ?_;intro K hK) | refine Ai ?_ | refine Ag ?_ | (refine AX rfl rfl ?_;intro K1 hK1;simp only [go_sem,d3];(first | refine hK1 _ ?_ | refine AE (hK1 _ ?_));clear hK1 K1) | ((first | refine Aa ?_ | refine Am ?_);refine hK _ ?_;clear hK K)))
 (refine Ah ?_;intro X Y hX hY;simp only [go_sem])
 refine hX ?_
 clear hX hY X Y
 (repeat (first | (refine AA ?_;intro K hK) | refine Ai ?_ | refine Ag ?_ | (refine AX rfl rfl ?_;intro K1 hK1;simp only [go_sem];(first | refine hK1 _ ?_ | refine AE (hK1 _ ?_));clear hK1 K1) | ((first | refine Aa ?_ | refine Am ?_);refine hK _ ?_;clear hK K)))
 ((try refine Ak ?_);(try simp only [Ad,Ay]);refine AB (A8 [1] rfl rfl) ?_;(try simp only [List.set_nil,List.take_nil,List.take_zero,List.map_append,go_sem]);((try refine Ak ?_);(try refine Aa ?_);(try simp only [Ad,Ay]);refine AN (by first | exact .inl rfl | exact .inr rfl) rfl ?_;simp only [Vm,Cq,Ck,Cx,Tryz.results82,go_sem,true_and,and_true,A5]))
 exact ⟨Y3 N j,⟨j,rfl,(hst.2 he.symm).symm⟩,by rw [<- hc],by rw [<- hn0]⟩
def UY (N:List Xh) (m:Int) (r:AV):Prop:=
 (vaP N m/\∃ out cl,MzP N out cl/\r=.tup [.c (.t 3 (tN out)),.c (.t 1 (Ac cl)),.c (.v (.int .i64 0))])
 \/ (¬ vaP N m/\r=.tup [.c (.v (.slice none 0 0)),.c (.v (.slice none 0 0)),.c (.v (.int .i64 1))])
theorem JD {N:List Xh} {p:List Int × Nat} {rows:List (List Ar)} {old:List Int} (h:rows.length<=old.length):(Y6 N p rows old).length=rows.length:=by
 unfold Y6
 rw [List.length_zipWith];omega
theorem O6 {q:List Ar} {k:Nat} (h:k<q.length) (num old:List Int):Bp (q.take (k+1)) num old=((AM (Bp (q.take k) num old).1 (Bp (q.take k) num old).2.1 q[k].2).1,(AM (Bp (q.take k) num old).1 (Bp (q.take k) num old).2.1 q[k].2).2,(Bp (q.take k) num old).2.2++[(q[k].1,(AM (Bp (q.take k) num old).1 (Bp (q.take k) num old).2.1 q[k].2).1.getD q[k].2.toNat 0)]):=by
 rw [gE8 h,NZ]
theorem SD {n:Nat} (q:List Ar) {num old:List Int} (h:NumOk n num old) (hb:∀ a∈q,0<=a.2/\a.2<(n:Int)) (k:Nat):NumOk n (Bp (q.take k) num old).1 (Bp (q.take k) num old).2.1:=by
 have:=NumOk.go (q.take k) [] h fun a ha=>hb a (List.mem_of_mem_take ha)
 rw [CE] at this
 exact this
theorem SE (q:List Ar) (num old:List Int):(Bp q num old).2.2.length=q.length:=by
 induction q generalizing num old with
 | nil=>rfl
 | cons a q ih=>simp [Bp,ih]
set_option maxHeartbeats 8000000 in
theorem SF (N:List Xh) (m:Int) (hN:XI N):FC Tryz.prog 38 [aN N,.i m] [] (fun r o=>o=[]/\UY N m r):=by
 refine A7 Tryz.func38 rfl (by rw [Tryz.ntmps38];simp) ?_
 rw [Tryz.ntmps38]
 simp only [B4,aN]
 have hval:=Sn N m hN
 simp only [aN] at hval
 (repeat (first | (refine AA ?_;intro K hK) | refine Ai ?_ | refine Ag ?_ | (refine AX rfl rfl ?_;intro K1 hK1;simp only [go_sem];(first | refine hK1 _ ?_ | refine AE (hK1 _ ?_));clear hK1 K1) | ((first | refine Aa ?_ | refine Am ?_);refine hK _ ?_;clear hK K)))
 (refine Aj rfl ?_;intro K1 hK1;refine (Av (ids:=[]) (hval) rfl rfl (by simp only [go_sem]) (by kernel_rfl) (by (simp only [List.append_nil,go_sem]) <;> rfl) ?_).stp)
 rintro _ _ ⟨rfl,rfl⟩
 (simp only [Ap,AC,List.append_nil,List.nil_append,List.length_map,go_sem];refine hK1 _ ?_;clear hK1 K1)
 cases hva:XU N m with
 | false=>
  (repeat (first | (refine AA ?_;intro K hK) | refine Ai ?_ | refine Ag ?_ | (refine AX rfl rfl ?_;intro K1 hK1;simp only [go_sem,Bool.not_false];(first | refine hK1 _ ?_ | refine AE (hK1 _ ?_));clear hK1 K1) | ((first | refine Aa ?_ | refine Am ?_);refine hK _ ?_;clear hK K)))
  (refine Ah ?_;intro X Y hX hY;simp only [go_sem])
  refine hX ?_
  clear hX hY X Y
  (repeat (first | (refine AA ?_;intro K hK) | refine Ai ?_ | refine Ag ?_ | (refine AX rfl rfl ?_;intro K1 hK1;simp only [go_sem];(first | refine hK1 _ ?_ | refine AE (hK1 _ ?_));clear hK1 K1) | ((first | refine Aa ?_ | refine Am ?_);refine hK _ ?_;clear hK K)))
  ((try refine Ak ?_);(try simp only [Ad,Ay]);refine AB (A8 [] rfl rfl) ?_;(try simp only [List.set_nil,List.take_nil,List.take_zero,List.map_append,go_sem]);((try refine Ak ?_);(try refine Aa ?_);(try simp only [Ad,Ay]);refine AN (by first | exact .inl rfl | exact .inr rfl) rfl ?_;simp only [Vm,Cq,Ck,Cx,Tryz.results38,go_sem,true_and,and_true]))
  exact .inr ⟨fun h=>(by rw [Hr.2 h] at hva;cases hva),rfl⟩
 | true=>
  have hvP:=Hr.1 hva
  have hv:=hvP.nv
  have hNl:=hv.2.1
  have hcls:=SC N hv
  simp only [aN] at hcls
  (repeat (first | (refine AA ?_;intro K hK) | refine Ai ?_ | refine Ag ?_ | (refine AX rfl rfl ?_;intro K1 hK1;simp only [go_sem,Bool.not_true];(first | refine hK1 _ ?_ | refine AE (hK1 _ ?_));clear hK1 K1) | ((first | refine Aa ?_ | refine Am ?_);refine hK _ ?_;clear hK K)))
  (refine Ah ?_;intro X Y hX hY;simp only [go_sem])
  refine hY ?_
  clear hX hY X Y
  (repeat (first | (refine AA ?_;intro K hK) | refine Ai ?_ | refine Ag ?_ | (refine AX rfl rfl ?_;intro K1 hK1;simp only [go_sem];(first | refine hK1 _ ?_ | refine AE (hK1 _ ?_));clear hK1 K1) | ((first | refine Aa ?_ | refine Am ?_);refine hK _ ?_;clear hK K)))
  (refine Aj rfl ?_;intro K1 hK1;refine Ax (ids:=[]) [] (hcls) rfl rfl (by simp only [go_sem]) (by first | assumption | kernel_rfl) rfl rfl (by (simp only [List.map_append,List.append_nil,go_sem]) <;> rfl) (by (simp only [Vk,Be,go_sem]) <;> rfl) ?_ ?_)
  ·rintro _ _ ⟨p,_,rfl,rfl⟩;rfl
  rintro _ _ ⟨p,hc,rfl,rfl⟩
  (simp only [Ap,AC,Be,AL,List.append_nil,List.nil_append,List.length_map,go_sem];refine hK1 _ ?_;clear hK1 K1)
  have h1:=hc.one hv.1
  have hcn:=hc.cnt
  have hcl:=hc.len
  have gz:(A9 p.1)[0]?=some (.v (.int .i64 0)):=by
   have h2:=hc.zero hv.1
   have h3:0<p.1.length:=by rw [hcl];exact hv.1
   rw [gE2,gE1 h3,Option.getD_some] at h2
   rw [At (gE1 h3),h2]
  have hcil:(A9 p.1).length=N.length:=by rw [A4,hcl]
  (repeat (first | (refine AA ?_;intro K hK) | refine Ai ?_ | refine Ag ?_ | (refine AX rfl rfl ?_;intro K1 hK1;simp only [go_sem];(first | refine hK1 _ ?_ | refine AE (hK1 _ ?_));clear hK1 K1) | ((first | refine Aa ?_ | refine Am ?_);refine hK _ ?_;clear hK K)))
  (refine Aj rfl ?_;intro K1 hK1;refine Ax (ids:=[]) [1] (FS (-1) p.2 h1 (by omega)) rfl rfl (by simp only [go_sem]) (by first | assumption | kernel_rfl) rfl rfl (by (simp only [List.map_append,List.append_nil,go_sem]) <;> rfl) (by (simp only [Vk,Be,A9,go_sem]) <;> rfl) ?_ ?_)
  ·rintro _ _ ⟨rfl,rfl⟩;rfl
  rintro _ _ ⟨rfl,rfl⟩
  (simp only [Ap,AC,Be,AL,List.append_nil,List.nil_append,List.length_map,go_sem];refine hK1 _ ?_;clear hK1 K1)
  have g0:0<(List.replicate p.2 (-1:Int)).length:=by simp;omega
  (repeat (first | (refine AA ?_;intro K hK) | refine Ai ?_ | refine Ag ?_ | (refine AX rfl rfl ?_;intro K1 hK1;simp only [go_sem,hcil,gz,Int.toNat_zero,A4,List.length_replicate,ST.put,De,A0.cells,Bj];(first | refine hK1 _ ?_ | refine AE (hK1 _ ?_));clear hK1 K1) | ((first | refine Aa ?_ | refine Am ?_);refine hK _ ?_;clear hK K)))
  refine As (BJ 11 35 3 ?_) ?_
  ·simp only [go_sem]
  refine As (A8 [0,2,3,4] rfl rfl) ?_
  (try simp only [List.set_nil,List.take_nil,List.take_zero,List.map_append,go_sem])
  (try simp only [A5])
  refine Ab (fun x:Nat × List Int × List Int × List Int × List (List Ar)=>{ tm:=[(0,.a (.c (.t 3 (tN N)))),(7,.a (.c (.s 0 N.length))),(9,.a (.c (.s 1 p.2))),(10,.a (.c (.s 2 x.2.2.2.1.length))),(11,.a (.c (.s 3 x.1))),(12,.i x.1)],hp:=[.r ⟨3,1,true,A9 p.1⟩,.r ⟨3,1,true,A9 x.2.1⟩,.r ⟨3,1,true,A9 x.2.2.2.1⟩,.r ⟨35,3,true,cN (Y6 N p x.2.2.2.2 x.2.2.1)⟩],n:=112,pin:=0 }) (fun x=>MzI N p x.1 x.2.1 x.2.2.1 x.2.2.2.1 x.2.2.2.2) (fun x=>p.2 - x.1) (0,(List.replicate p.2 (-1)).set 0 0,[0],[0],[]) ?_ ?_ ?_
  ·exact MzI.zero hv.1 hc
  ·have hz0:A9 [(0:Int)]=[.v (.int .i64 0)]:=rfl
   simp only [hz0,Y6,List.zipWith_nil_left,cN,List.flatMap_nil,List.length_cons,List.length_nil]
   (refine Bh ?_;simp only [CS,go_sem];try simp)
  rintro ⟨i,num,old,st,rows⟩ hI K hK
  simp only at hI hK ⊢
  have hle:=hI.nok.le
  have hil:=hI.le
  have hol:=hI.ol
  have hsl:=hI.st.len
  have hoL:(cN (Y6 N p rows old)).length=i*3:=by rw [Im,JD (by omega),hol]
  by_cases hlt:i<st.length
  rotate_left
  ·have d1:decide ((i:Int)<(st.length:Int))=false:=by simpa using hlt
   have hei:old.length=i:=by omega
   have hdn:=hI.done hc (by omega)
   have htk:(tN (Y6 N p rows old)).take (i*3)=tN (Y6 N p rows old):=gE7 (by rw [Bz,JD (by omega),hol];exact Nat.le_refl _)
   have htl:(tN (Y6 N p rows old)).length=i*3:=by rw [Bz,JD (by omega),hol]
   generalize Y6 N p rows old=out at *
   have hnl:=hI.nok.len
   obtain ⟨g,hgd⟩:∃ g:Int->Int,g=fun x=>num.getD x.toNat 0:=⟨_,rfl⟩
   rw [<- hgd] at hdn
   have hgp:∀ x,g x=num.getD x.toNat 0:=fun x=>by rw [hgd]
   have hml:(p.1.map g).length=N.length:=by rw [List.length_map,hcl]
   (repeat (first | (refine AA ?_;intro K hK) | refine Ai ?_ | refine Ag ?_ | (refine AX rfl rfl ?_;intro K1 hK1;simp only [go_sem,A4,d1];(first | refine hK1 _ ?_ | refine AE (hK1 _ ?_));clear hK1 K1) | ((first | refine Aa ?_ | refine Am ?_);refine hK _ ?_;clear hK K)))
   (refine Ah ?_;intro X Y hX hY;simp only [go_sem])
   refine hY ?_
   clear hX hY X Y
   (refine Du ?_;simp only [Ad,Ay,reduceIte,Nat.reduceEqDiff];(first | refine hK _ ?_ | (clear hK K;refine hK _ ?_) | (clear hK K;clear hK K;refine hK _ ?_) | (clear hK K;clear hK K;clear hK K;refine hK _ ?_) | (clear hK K;clear hK K;clear hK K;clear hK K;refine hK _ ?_) | (clear hK K;clear hK K;clear hK K;clear hK K;clear hK K;refine hK _ ?_));clear hK K)
   (refine As (B6 (r:=⟨35,3,true,cN out⟩) 3 (tN out) rfl (Pu _) (show 0<(3:Nat) by omega)) ?_;simp only [ST.frz,A0.frz,AV.frz,C.frz,Nat.le_refl,List.set_cons_zero,List.set_cons_succ,go_sem,htl,Cw,htk])
   (repeat (first | (refine AA ?_;intro K hK) | refine Ai ?_ | refine Ag ?_ | (refine AX rfl rfl ?_;intro K1 hK1;simp only [go_sem];(first | refine hK1 _ ?_ | refine AE (hK1 _ ?_));clear hK1 K1) | ((first | refine Aa ?_ | refine Am ?_);refine hK _ ?_;clear hK K)))
   refine Ab (fun k:Nat=>{ tm:=[(7,.a (.c (.s 0 N.length))),(9,.a (.c (.s 1 p.2))),(11,.a (.c (.t 3 (tN out)))),(95,.i N.length),(96,.i k)],hp:=[.r ⟨3,1,true,A9 (Yc (p.1.map g) p.1 k)⟩,.r ⟨3,1,true,A9 num⟩],n:=112,pin:=0 }) (fun k=>k<=N.length) (fun k=>N.length - k) 0 ?_ ?_ ?_
   ·omega
   ·rw [Hv]
    refine Le.trans (A8 [0,1] rfl rfl) ?_
    simp only [go_sem,A5]
    (refine Bh ?_;simp only [CS,go_sem];try simp)
   rintro k hk K hK
   have hll:p.1.length=(p.1.map g).length:=by rw [List.length_map]
   have hml2:=JB hll k (by omega)
   have hml3:(A9 (Yc (p.1.map g) p.1 k)).length=N.length:=by rw [A4,hml2,hml]
   by_cases hlt2:k<N.length
   ·have d2:decide ((k:Int)<(N.length:Int))=true:=by simpa using hlt2
    have hks:=JC hll (k:=k) (by omega)
    have hkp:k<p.1.length:=by omega
    have hmk:(Yc (p.1.map g) p.1 k)[k]?=some p.1[k]:=by
     unfold Yc
     rw [gEb (by rw [List.length_take];omega),List.length_take,show k - min k (p.1.map g).length=0 by omega,List.getElem?_drop,Nat.add_zero,gE1 hkp]
    have gm:=At hmk
    have hpm:=hc.mem (gE6 hkp)
    rw [List.getElem_map,hgp] at hks
    generalize p.1[k]=c at *
    obtain ⟨cn,rfl⟩:∃ n:Nat,c=(n:Int):=⟨c.toNat,by omega⟩
    simp only [Int.toNat_natCast] at hks
    have gn2:num[cn]?=some num[cn]:=gE1 (by omega)
    have gn:=At gn2
    have hgd2:num.getD cn 0=num[cn]:=by rw [gE2,gn2];rfl
    rw [hgd2] at hks
    have hni:(A9 num).length=p.2:=by rw [A4,hnl]
    generalize num[cn]=v at *
    (repeat (first | (refine AA ?_;intro K hK) | refine Ai ?_ | refine Ag ?_ | (refine AX rfl rfl ?_;intro K1 hK1;simp only [go_sem,d2];(first | refine hK1 _ ?_ | refine AE (hK1 _ ?_));clear hK1 K1) | ((first | refine Aa ?_ | refine Am ?_);refine hK _ ?_;clear hK K)))
    (refine Ah ?_;intro X Y hX hY;simp only [go_sem])
    refine hX ?_
    clear hX hY X Y
    (repeat (first | (refine AA ?_;intro K hK) | refine Ai ?_ | refine Ag ?_ | (refine AX rfl rfl ?_;intro K1 hK1;simp only [go_sem,hml3,gm,gn,hni,ST.put,De,A0.cells,Bj,hks];(first | refine hK1 _ ?_ | refine AE (hK1 _ ?_));clear hK1 K1) | ((first | refine Aa ?_ | refine Am ?_);refine hK _ ?_;clear hK K)))
    ((try refine Aa ?_);(try refine Am ?_);try simp only [Ad])
    refine hK _ (k+1) (by omega) (by omega) ?_
    (refine Bh ?_;simp only [CS,go_sem];try simp)
   have d2:decide ((k:Int)<(N.length:Int))=false:=by simpa using hlt2
   have hkl:k=(p.1.map g).length:=by omega
   have htk2:(Ac (p.1.map g)).take N.length=Ac (p.1.map g):=gE7 (by rw [A2,hml];exact Nat.le_refl _)
   have htl2:(Ac (p.1.map g)).length=N.length:=by rw [A2,hml]
   rw [hkl,JA hll]
   rw [hkl] at d2
   generalize p.1.map g=cl at *
   (repeat (first | (refine AA ?_;intro K hK) | refine Ai ?_ | refine Ag ?_ | (refine AX rfl rfl ?_;intro K1 hK1;simp only [go_sem,d2];(first | refine hK1 _ ?_ | refine AE (hK1 _ ?_));clear hK1 K1) | ((first | refine Aa ?_ | refine Am ?_);refine hK _ ?_;clear hK K)))
   (refine Ah ?_;intro X Y hX hY;simp only [go_sem])
   refine hY ?_
   clear hX hY X Y
   (refine Du ?_;simp only [Ad,Ay,reduceIte,Nat.reduceEqDiff];(first | refine hK _ ?_ | (clear hK K;refine hK _ ?_) | (clear hK K;clear hK K;refine hK _ ?_) | (clear hK K;clear hK K;clear hK K;refine hK _ ?_) | (clear hK K;clear hK K;clear hK K;clear hK K;refine hK _ ?_) | (clear hK K;clear hK K;clear hK K;clear hK K;clear hK K;refine hK _ ?_));clear hK K)
   (refine As (B6 (r:=⟨3,1,true,A9 cl⟩) 0 (Ac cl) rfl (ES _) (show 0<(1:Nat) by omega)) ?_;simp only [ST.frz,A0.frz,AV.frz,C.frz,Nat.le_refl,List.set_cons_zero,List.set_cons_succ,go_sem,htl2,htk2,Nat.div_one])
   (repeat (first | (refine AA ?_;intro K hK) | refine Ai ?_ | refine Ag ?_ | (refine AX rfl rfl ?_;intro K1 hK1;simp only [go_sem];(first | refine hK1 _ ?_ | refine AE (hK1 _ ?_));clear hK1 K1) | ((first | refine Aa ?_ | refine Am ?_);refine hK _ ?_;clear hK K)))
   ((try refine Ak ?_);(try simp only [Ad,Ay]);refine AB (A8 [] rfl rfl) ?_;(try simp only [List.set_nil,List.take_nil,List.take_zero,List.map_append,go_sem]);((try refine Ak ?_);(try refine Aa ?_);(try simp only [Ad,Ay]);refine AN (by first | exact .inl rfl | exact .inr rfl) rfl ?_;simp only [Vm,Cq,Ck,Cx,Tryz.results38,go_sem,true_and,and_true]))
   exact .inl ⟨hvP,out,cl,hdn,rfl⟩
  have hKo:=hK
  have d1:decide ((i:Int)<(st.length:Int))=true:=by simpa using hlt
  have hg:=gE1 hlt
  obtain ⟨s0,s1,s2⟩:=hI.st.at_ i _ hg
  obtain ⟨s,hs⟩:∃ s:Nat,st[i]=(s:Int):=⟨st[i].toNat,by omega⟩
  rw [hs] at s0 s1 s2 hg
  have hsn:s<N.length:=by omega
  have gs:=At hg
  have hat:=LF hsn
  have hnd:N.getD s nz=N[s]:=by rw [gE2,gE1 hsn];rfl
  have hb:=hv.2.2 _ (gE6 hsn)
  obtain ⟨b1,b2⟩:=Hu hv hc hsn
  have hstep:=fun st2=>hI.step hv hc hg (st2:=st2)
  simp only [Int.toNat_natCast] at hstep
  rw [hnd] at hstep
  have hqd:DI N p.1 s=N[s].1.map fun a=>(a.1,p.1.getD a.2.toNat 0):=by unfold DI;rw [hnd]
  obtain ⟨B,hB⟩:∃ B,B=DI N p.1 s:=⟨_,rfl⟩
  rw [<- hB] at b1 b2 hstep hqd
  generalize N[s]=x at *
  obtain ⟨A,V,dv⟩:=x
  simp only [Xo] at hat hb hqd hstep
  have hBl:B.length=A.length:=by rw [hqd,List.length_map]
  have hok:=SD B hI.nok (fun a ha=>by have:=b2 a ha;omega)
  have hil3:(A9 st).length=st.length:=A4 _
  (repeat (first | (refine AA ?_;intro K hK) | refine Ai ?_ | refine Ag ?_ | (refine AX rfl rfl ?_;intro K1 hK1;simp only [go_sem,hil3,d1];(first | refine hK1 _ ?_ | refine AE (hK1 _ ?_));clear hK1 K1) | ((first | refine Aa ?_ | refine Am ?_);refine hK _ ?_;clear hK K)))
  (refine Ah ?_;intro X Y hX hY;simp only [go_sem])
  refine hX ?_
  clear hX hY X Y
  (repeat (first | (refine AA ?_;intro K hK) | refine Ai ?_ | refine Ag ?_ | (refine AX rfl rfl ?_;intro K1 hK1;simp only [go_sem,hil3,gs,hat,Bz,Cw,ST.put,De,A0.cells,A3,Aq];(first | refine hK1 _ ?_ | refine AE (hK1 _ ?_));clear hK1 K1) | ((first | refine Aa ?_ | refine Am ?_);refine hK _ ?_;clear hK K)))
  refine As (BJ 14 23 2 ?_) ?_
  ·simp only [go_sem]
  refine Ab (fun y:Nat × List Int=>{ tm:=[(0,.a (.c (.t 3 (tN N)))),(7,.a (.c (.s 0 N.length))),(9,.a (.c (.s 1 p.2))),(10,.a (.c (.s 2 y.2.length))),(11,.a (.c (.s 3 i))),(12,.i i),(13,.a (.c (.p 4 0))),(14,.a (.c (.s 5 y.1))),(51,.a (.c (.t 2 (Aw A)))),(52,.i A.length),(53,.i y.1)],hp:=[.r ⟨3,1,true,A9 p.1⟩,.r ⟨3,1,true,A9 (Bp (B.take y.1) num old).1⟩,.r ⟨3,1,true,A9 y.2⟩,.r ⟨35,3,true,cN (Y6 N p rows old)⟩,.r ⟨35,3,false,[.t 2 (Aw A),.t 1 (Az V),.v (.bool dv)]⟩,.r ⟨23,2,true,AG (Bp (B.take y.1) num old).2.2⟩],n:=112,pin:=0 }) (fun y=>y.1<=A.length/\StO N p.1 y.2 (Bp (B.take y.1) num old).2.1) (fun y=>A.length - y.1) (0,st) ?_ ?_ ?_
  ·exact ⟨by simp only;omega,hI.st⟩
  ·have hc0:AG []=[]:=rfl
   simp only [List.take_zero,Bp,hc0]
   (refine Bh ?_;simp only [CS,go_sem];try simp)
  rintro ⟨k,st2⟩ ⟨hk,hst2⟩ K hK
  simp only at hk hst2 hK ⊢
  have hok2:=hok k
  have hrl:=SE (B.take k) num old
  rw [List.length_take] at hrl
  have hol2:=hst2.len
  have hlen2:=hok2.len
  have hle2:=hok2.le
  by_cases hlt2:k<A.length
  rotate_left
  ·have d2:decide ((k:Int)<(A.length:Int))=false:=by simpa using hlt2
   have hkA:k=B.length:=by omega
   have hBt:B.take k=B:=gE7 (by omega)
   rw [hBt] at hrl hst2 hok2 hlen2 hle2 hol2 ⊢
   have hst3:=hstep st2 hst2
   generalize hZ:Bp B num old=Z at *
   obtain ⟨num2,old2,ya⟩:=Z
   simp only at hok2 hst2 hrl hlen2 hle2 hol2 hst3
   have hya:ya.length=k:=by omega
   have hcp:=PL A ya V dv (by have:=hb.2.2.2.1;omega) (fun s hs=>by have:=(hb.2.2.2.2 s hs).1;omega)
   have htk:(Aw ya).take (k*2)=Aw ya:=gE7 (by rw [A3,hya];exact Nat.le_refl _)
   have hsnoc:(cN (Y6 N p rows old)).take (i*3)++[.t 2 (Aw ya),.t 1 (Az V),.v (.bool dv)]=cN (Y6 N p (rows++[ya]) old2):=by
    rw [gE7 (by rw [hoL];exact Nat.le_refl _),hst3.2]
    exact Jh _ (ya,V,dv)
   (repeat (first | (refine AA ?_;intro K hK) | refine Ai ?_ | refine Ag ?_ | (refine AX rfl rfl ?_;intro K1 hK1;simp only [go_sem,d2];(first | refine hK1 _ ?_ | refine AE (hK1 _ ?_));clear hK1 K1) | ((first | refine Aa ?_ | refine Am ?_);refine hK _ ?_;clear hK K)))
   (refine Ah ?_;intro X Y hX hY;simp only [go_sem])
   refine hY ?_
   clear hX hY X Y
   (refine Du ?_;simp only [Ad,Ay,reduceIte,Nat.reduceEqDiff];(first | refine hK _ ?_ | (clear hK K;refine hK _ ?_) | (clear hK K;clear hK K;refine hK _ ?_) | (clear hK K;clear hK K;clear hK K;refine hK _ ?_) | (clear hK K;clear hK K;clear hK K;clear hK K;refine hK _ ?_) | (clear hK K;clear hK K;clear hK K;clear hK K;clear hK K;refine hK _ ?_));clear hK K)
   (refine As (B6 (r:=⟨23,2,true,AG ya⟩) 5 (Aw ya) rfl (DB _) (show 0<(2:Nat) by omega)) ?_;simp only [ST.frz,A0.frz,AV.frz,C.frz,Nat.le_refl,List.set_cons_zero,List.set_cons_succ,go_sem,A3,Aq,hya,htk])
   (repeat (first | (refine AA ?_;intro K hK) | refine Ai ?_ | refine Ag ?_ | (refine AX rfl rfl ?_;intro K1 hK1;simp only [go_sem];(first | refine hK1 _ ?_ | refine AE (hK1 _ ?_));clear hK1 K1) | ((first | refine Aa ?_ | refine Am ?_);refine hK _ ?_;clear hK K)))
   (refine Aj rfl ?_;intro K1 hK1;refine Ax (ids:=[]) [] (hcp) rfl rfl (by simp only [go_sem]) (by first | assumption | kernel_rfl) rfl rfl (by (simp only [List.map_append,List.append_nil,go_sem]) <;> rfl) (by (simp only [Vk,Xp,XC,go_sem]) <;> rfl) ?_ ?_)
   ·rintro _ _ ⟨rfl,rfl⟩;rfl
   rintro _ _ ⟨rfl,rfl⟩
   (simp only [Ap,AC,Xp,XC,List.append_nil,List.nil_append,List.length_map,go_sem];refine hK1 _ ?_;clear hK1 K1)
   (repeat (first | (refine AA ?_;intro K hK) | refine Ai ?_ | refine Ag ?_ | (refine AX rfl rfl ?_;intro K1 hK1;simp only [go_sem,hoL,Cw,hsnoc];(first | refine hK1 _ ?_ | refine AE (hK1 _ ?_));clear hK1 K1) | ((first | refine Aa ?_ | refine Am ?_);refine hK _ ?_;clear hK K)))
   ((try refine Aa ?_);(try refine Am ?_);try simp only [Ad])
   refine hKo _ (i+1,num2,old2,st2,rows++[ya]) hst3.1 (by have:=hst3.1.le;have:=hst3.1.nok.le;simp only;omega) ?_
   refine Le.trans (A8 [0,1,2,8] rfl rfl) ?_
   (try simp only [List.set_nil,List.take_nil,List.take_zero,List.map_append,go_sem])
   (try simp only [A5,F2,G5])
   (refine Bh ?_;simp only [CS,go_sem];try simp)
  have d2:decide ((k:Int)<(A.length:Int))=true:=by simpa using hlt2
  have hnx:=O6 (q:=B) (k:=k) (by omega) num old
  have hBk:B[k]'(by omega)=(A[k].1,p.1.getD A[k].2.toNat 0):=by simp only [hqd,List.getElem_map]
  have hbk:=b2 _ (gE6 (show k<B.length by omega))
  rw [hBk] at hnx hbk
  have hat2:=AS hlt2
  have hab:=hb.2.2.1 _ (gE6 hlt2)
  generalize A[k]=a at *
  obtain ⟨e,t⟩:=a
  simp only at hat2 hab hnx hbk
  obtain ⟨tn,rfl⟩:∃ n:Nat,t=(n:Int):=⟨t.toNat,by omega⟩
  have htl:tn<p.1.length:=by omega
  have gc:=At (gE1 htl)
  have hgd:p.1.getD tn 0=p.1[tn]:=by rw [gE2,gE1 htl];rfl
  have hsn2:=hst2.snoc (t:=(tn:Int)) (x:=p.1.getD tn 0) (by omega) (by omega) (by rw [Int.toNat_natCast])
  simp only [Int.toNat_natCast] at hnx hbk
  rw [hgd] at hnx hbk hsn2
  generalize p.1[tn]=c at *
  obtain ⟨cn,rfl⟩:∃ n:Nat,c=(n:Int):=⟨c.toNat,by omega⟩
  have hcl2:cn<p.2:=by omega
  generalize hZ:Bp (B.take k) num old=Z at *
  obtain ⟨num2,old2,ya⟩:=Z
  simp only at hok2 hst2 hrl hlen2 hle2 hsn2 hnx hol2
  have gn2:num2[cn]?=some num2[cn]:=gE1 (by omega)
  have gn:=At gn2
  have hni:(A9 num2).length=p.2:=by rw [A4,hlen2]
  have hal:(AG ya).length=k*2:=by rw [AD,hrl];omega
  by_cases hx:num2[cn]<0
  rotate_left
  ·have d3:decide (num2[cn]<0)=false:=by simpa using hx
   have hone:AM num2 old2 (cn:Int)=(num2,old2):=by
    simp only [AM,Int.toNat_natCast,gE2,gn2,Option.getD_some,if_neg hx]
   have hgd2:num2.getD cn 0=num2[cn]:=by rw [gE2,gn2];rfl
   simp only [hone,Int.toNat_natCast,hgd2] at hnx
   have ca:(AG ya).take (k*2)++[C.v (.int .i64 e),C.v (.int .i64 num2[cn])]=AG (ya++[(e,num2[cn])]):=by
    rw [gE7 (by rw [hal];exact Nat.le_refl _)];simp [AG]
   (repeat (first | (refine AA ?_;intro K hK) | refine Ai ?_ | refine Ag ?_ | (refine AX rfl rfl ?_;intro K1 hK1;simp only [go_sem,d2];(first | refine hK1 _ ?_ | refine AE (hK1 _ ?_));clear hK1 K1) | ((first | refine Aa ?_ | refine Am ?_);refine hK _ ?_;clear hK K)))
   (refine Ah ?_;intro X Y hX hY;simp only [go_sem])
   refine hX ?_
   clear hX hY X Y
   (repeat (first | (refine AA ?_;intro K hK) | refine Ai ?_ | refine Ag ?_ | (refine AX rfl rfl ?_;intro K1 hK1;simp only [go_sem,hat2,A3,Aq,hcil,gc,gn,hni,d3,ST.put,De,A0.cells];(first | refine hK1 _ ?_ | refine AE (hK1 _ ?_));clear hK1 K1) | ((first | refine Aa ?_ | refine Am ?_);refine hK _ ?_;clear hK K)))
   (refine Ah ?_;intro X Y hX hY;simp only [go_sem])
   refine hY ?_
   clear hX hY X Y
   (repeat (first | (refine AA ?_;intro K hK) | refine Ai ?_ | refine Ag ?_ | (refine AX rfl rfl ?_;intro K1 hK1;simp only [go_sem];(first | refine hK1 _ ?_ | refine AE (hK1 _ ?_));clear hK1 K1) | ((first | refine Aa ?_ | refine Am ?_);refine hK _ ?_;clear hK K)))
   (refine Af 8 [(0,0),(1,0),(2,1),(3,0),(4,0),(5,0),(6,1),(7,0),(8,2),(9,2),(10,0)] (by kernel_rfl) (by kernel_rfl) (by intro c st h;simp [Ad,Ay,Vl] at h) ?_)
   (repeat (first | ((first | refine QP rfl rfl rfl ?_ | refine QQ rfl rfl rfl ?_);intro K1 hK1;simp only [go_sem,gn,hni,hal,ca];(first | refine hK1 _ ?_ | refine AE (hK1 _ ?_));clear hK1 K1) | (refine QR rfl rfl rfl rfl ?_;intro K1 hK1;simp only [go_sem,gn,hni,hal,ca];(first | refine hK1 _ ?_ | refine AE (hK1 _ ?_));clear hK1 K1) | (refine IR ?_;refine hK _ ?_;clear hK K)))
   (repeat (first | (refine AA ?_;intro K hK) | refine Ai ?_ | refine Ag ?_ | (refine AX rfl rfl ?_;intro K1 hK1;simp only [go_sem];(first | refine hK1 _ ?_ | refine AE (hK1 _ ?_));clear hK1 K1) | ((first | refine Aa ?_ | refine Am ?_);refine hK _ ?_;clear hK K)))
   ((try refine Aa ?_);(try refine Am ?_);try simp only [Ad])
   refine hK _ (k+1,st2) ⟨by simp only;omega,?_⟩ (by simp only;omega) ?_
   ·simp only [hnx];exact hst2
   simp only [hnx]
   refine Le.trans (A8 [0,1,2,3,4,8] rfl rfl) ?_
   (try simp only [List.set_nil,List.take_nil,List.take_zero,List.map_append,go_sem])
   (try simp only [A5,F2,G5])
   (refine Bh ?_;simp only [CS,go_sem];try simp)
  have d3:decide (num2[cn]<0)=true:=by simpa using hx
  have hone:AM num2 old2 (cn:Int)=(num2.set cn (old2.length:Int),old2++[(cn:Int)]):=by
   simp only [AM,Int.toNat_natCast,gE2,gn2,Option.getD_some,if_pos hx]
  have gs2:(A9 (num2.set cn (old2.length:Int)))[cn]?=some (.v (.int .i64 (old2.length:Int))):=At (gEc (by omega))
  have hgd2:(num2.set cn (old2.length:Int)).getD cn 0=(old2.length:Int):=by rw [gE2,gEc (by omega)];rfl
  simp only [hone,Int.toNat_natCast,hgd2] at hnx
  have op:=Km st2 (tn:Int)
  have ca:(AG ya).take (k*2)++[C.v (.int .i64 e),C.v (.int .i64 (old2.length:Int))]=AG (ya++[(e,(old2.length:Int))]):=by
   rw [gE7 (by rw [hal];exact Nat.le_refl _)];simp [AG]
  rw [hol2] at op ⊢
  (repeat (first | (refine AA ?_;intro K hK) | refine Ai ?_ | refine Ag ?_ | (refine AX rfl rfl ?_;intro K1 hK1;simp only [go_sem,d2];(first | refine hK1 _ ?_ | refine AE (hK1 _ ?_));clear hK1 K1) | ((first | refine Aa ?_ | refine Am ?_);refine hK _ ?_;clear hK K)))
  (refine Ah ?_;intro X Y hX hY;simp only [go_sem])
  refine hX ?_
  clear hX hY X Y
  (repeat (first | (refine AA ?_;intro K hK) | refine Ai ?_ | refine Ag ?_ | (refine AX rfl rfl ?_;intro K1 hK1;simp only [go_sem,hat2,A3,Aq,hcil,gc,gn,hni,d3,ST.put,De,A0.cells];(first | refine hK1 _ ?_ | refine AE (hK1 _ ?_));clear hK1 K1) | ((first | refine Aa ?_ | refine Am ?_);refine hK _ ?_;clear hK K)))
  (refine Ah ?_;intro X Y hX hY;simp only [go_sem])
  refine hX ?_
  clear hX hY X Y
  (repeat (first | (refine AA ?_;intro K hK) | refine Ai ?_ | refine Ag ?_ | (refine AX rfl rfl ?_;intro K1 hK1;simp only [go_sem,hcil,gc,gn,hni,A4,hlen2,ST.put,De,A0.cells,Bj,op,hol2,List.length_set];(first | refine hK1 _ ?_ | refine AE (hK1 _ ?_));clear hK1 K1) | ((first | refine Aa ?_ | refine Am ?_);refine hK _ ?_;clear hK K)))
  (refine Af 8 [(0,0),(1,0),(2,1),(3,0),(4,0),(5,0),(6,1),(7,0),(8,2),(9,2),(10,0)] (by kernel_rfl) (by kernel_rfl) (by intro c st h;simp [Ad,Ay,Vl] at h) ?_)
  (repeat (first | ((first | refine QP rfl rfl rfl ?_ | refine QQ rfl rfl rfl ?_);intro K1 hK1;simp only [go_sem,gs2,A4,hlen2,List.length_set,hal,ca];(first | refine hK1 _ ?_ | refine AE (hK1 _ ?_));clear hK1 K1) | (refine QR rfl rfl rfl rfl ?_;intro K1 hK1;simp only [go_sem,gs2,A4,hlen2,List.length_set,hal,ca];(first | refine hK1 _ ?_ | refine AE (hK1 _ ?_));clear hK1 K1) | (refine IR ?_;refine hK _ ?_;clear hK K)))
  (repeat (first | (refine AA ?_;intro K hK) | refine Ai ?_ | refine Ag ?_ | (refine AX rfl rfl ?_;intro K1 hK1;simp only [go_sem];(first | refine hK1 _ ?_ | refine AE (hK1 _ ?_));clear hK1 K1) | ((first | refine Aa ?_ | refine Am ?_);refine hK _ ?_;clear hK K)))
  ((try refine Aa ?_);(try refine Am ?_);try simp only [Ad])
  refine hK _ (k+1,st2++[(tn:Int)]) ⟨by simp only;omega,?_⟩ (by simp only;omega) ?_
  ·simp only [hnx];exact hsn2
  simp only [hnx,List.length_append,List.length_cons,List.length_nil,hol2]
  refine Le.trans (A8 [0,1,8,3,4,10] rfl rfl) ?_
  (try simp only [List.set_nil,List.take_nil,List.take_zero,List.map_append,go_sem])
  (try simp only [A5,F2,G5])
  (refine Bh ?_;simp only [CS,go_sem];try simp)
theorem NvB.ns {N:List Xh} (h:NvB N):XI N:=by
 refine ⟨by have:=h.2.1;omega,fun x hx=>?_⟩
 obtain ⟨_,h2,_,h4,h5⟩:=h.2.2 x hx
 exact ⟨by omega,by omega,fun s hs=>by have:=(h5 s hs).1;omega⟩
theorem PreE.len {R:List (List Ar)} {m:Int} {p:List (List Nat) × List Xh} (hn:R.length<=7) (h:PreE R m p):p.1.length<=128/\p.2.length<=128:=by
 obtain ⟨K,_,hl,hP⟩:=h
 have h1:=hP.st.len
 have h2:(2:Nat) ^ R.length<=2 ^ 7:=Nat.pow_le_pow_right (by omega) hn
 have h3:=hP.n
 omega
theorem PreE.va {R:List (List Ar)} {m:Int} {p:List (List Nat) × List Xh} (hv:C7 R=true) (hm:Fy m=true) (hn:R.length<=7) (h:PreE R m p):vaP p.2 m:=
 h.valid hv hm (by omega) (by have:=(h.len hn).1;omega)
def UL (R:List (List Ar)) (m:Int) (r:AV):Prop:=
 (Fy m=true/\C7 R=true/\∃ p out cl,PreE R m p/\vaP p.2 m/\MzP p.2 out cl/\r=.tup [.c (.t 3 (tN out)),.c (.v (.int .i64 0))])
 \/ (¬ (Fy m=true/\C7 R=true)/\r=.tup [.c (.v (.slice none 0 0)),.c (.v (.int .i64 1))])
set_option maxHeartbeats 2000000 in
theorem U5 (R:List (List Ar)) (m:Int) (hn:R.length<=7) (hr:∀ r∈R,r.length<=10000):FC Tryz.prog 11 [Ba R,.i m] [] (fun r o=>o=[]/\UL R m r):=by
 refine A7 Tryz.func11 rfl (by rw [Tryz.ntmps11];simp) ?_
 rw [Tryz.ntmps11]
 simp only [B4,Ba]
 have hpre:=NE R m hn hr
 simp only [Ba] at hpre
 (refine SU ?_;(repeat clear hK K);repeat refine kq fun K hK=>?_)
 (refine W0 hpre ?_;intro K1 hK1)
 rintro _ _ ⟨rfl,hpa⟩
 rcases hpa with ⟨hm,hv,p,hp,rfl⟩ | ⟨hno,rfl⟩
 rotate_left
 ·(refine W1 ?_;clear hK1 K1)
  have d0:((1:Int) != 0)=true:=by decide
  (refine VW @d0 ?_;(repeat clear hK K);repeat refine kq fun K hK=>?_)
  refine W2 ?_
  (refine VV ?_;(repeat clear hK K);repeat refine kq fun K hK=>?_)
  refine W6 [] Tryz.results11 ?_
  exact .inr ⟨hno,rfl⟩
 have hva:=hp.va hv hm hn
 have hmin:=SF p.2 m hva.nv.ns
 simp only [aN] at hmin
 (refine W1 ?_;clear hK1 K1)
 have d0:((0:Int) != 0)=false:=by decide
 (refine VW @d0 ?_;(repeat clear hK K);repeat refine kq fun K hK=>?_)
 refine W3 ?_
 (refine VV ?_;(repeat clear hK K);repeat refine kq fun K hK=>?_)
 (refine W0 hmin ?_;intro K1 hK1)
 rintro _ _ ⟨rfl,hma⟩
 rcases hma with ⟨_,out,cl,hz,rfl⟩ | ⟨hno,rfl⟩
 rotate_left
 ·exact absurd hva hno
 (refine W1 ?_;clear hK1 K1)
 (refine VV ?_;(repeat clear hK K);repeat refine kq fun K hK=>?_)
 refine W6 [] Tryz.results11 ?_
 exact .inl ⟨hm,hv,p,out,cl,hp,hva,hz,rfl⟩
theorem SG {R:List (List Ar)} {m:Int} {K:Nat} {p:List (List Nat) × List Xh} {q:List Int × Nat} {out:List Xh} (hm:Fy m=true) (hv:C7 R=true) (hk:B8 R m K=p) (hl:p.1.length=K) (hc:ClN p.2 q) (ho:Y6 p.2 q (AZ (qN p.2 q)).1 (AZ (qN p.2 q)).2=out) {r:AV} (h:UL R m r):r=.tup [.c (.t 3 (tN out)),.c (.v (.int .i64 0))]:=by
 rcases h with ⟨_,_,p2,out2,cl,hp,_,hz,rfl⟩ | ⟨hno,_⟩
 rotate_left
 ·exact absurd ⟨hm,hv⟩ hno
 have e:=hp.uniq (PreE.mk hk hl)
 subst e
 obtain ⟨q2,num,hc2,_,_,_,rfl,_⟩:=hz
 rw [hc2.uniq hc,ho]
theorem SH {R:List (List Ar)} {m:Int} {K:Nat} {p:List (List Nat) × List Xh} {q:List Int × Nat} {out:List Xh} (hn:R.length<=7) (hr:∀ r∈R,r.length<=10000) (hm:Fy m=true) (hv:C7 R=true) (hk:B8 R m K=p) (hl:p.1.length=K) (hc:ClN p.2 q) (ho:Y6 p.2 q (AZ (qN p.2 q)).1 (AZ (qN p.2 q)).2=out):FC Tryz.prog 11 [Ba R,.i m] [] (fun r o=>o=[]/\r=.tup [.c (.t 3 (tN out)),.c (.v (.int .i64 0))]):=
 (U5 R m hn hr).mono fun r o ⟨h1,h2⟩=>⟨h1,SG hm hv hk hl hc ho h2⟩
theorem SI:FC Tryz.prog 11 [Ba IB,.i 2] [] (fun r o=>o=[]/\r=.tup [.c (.t 3 (tN O5)),.c (.v (.int .i64 0))]):=
 SH (by decide) (by decide) rfl (by kernel_rfl) U2 rfl U3 (by decide)
set_option maxHeartbeats 2000000 in
theorem O7:FC Tryz.prog 13 [] [] (fun r _=>r=.b true):=by
 refine A7 Tryz.func13 rfl (by rw [Tryz.ntmps13];simp) ?_
 rw [Tryz.ntmps13]
 simp only [B4]
 have hnz:=SI
 have heq:=NN O5 (by unfold XI;decide)
 simp only [Ba] at hnz
 simp only [aN] at heq
 (repeat (first | (refine AA ?_;intro K hK) | refine Ai ?_ | refine Ag ?_))
 (repeat (refine AX rfl rfl ?_;intro K1 hK1;simp only [go_sem,ST.put,De,A0.cells];refine hK1 _ ?_;clear hK1 K1))
 (first | refine Aa ?_ | refine Am ?_)
 refine hK _ ?_
 clear hK K
 (repeat (first | (refine AA ?_;intro K hK) | refine Ai ?_ | refine Ag ?_))
 (repeat (refine AX rfl rfl ?_;intro K1 hK1;simp only [go_sem,ST.put,De,A0.cells];refine hK1 _ ?_;clear hK1 K1))
 (first | refine Aa ?_ | refine Am ?_)
 refine hK _ ?_
 clear hK K
 refine As (AQ (r:=⟨23,2,true,AG [(0,1),(0,2)]⟩) (ts:=Aw [(0,1),(0,2)]) 3 0 0 2 (by decide) rfl rfl rfl rfl (show 0<2 by omega) rfl (DB _)) ?_
 simp only [go_sem]
 refine As (AQ (r:=⟨23,2,true,AG [(2,3)]⟩) (ts:=Aw [(2,3)]) 3 1 1 1 (by decide) rfl rfl rfl rfl (show 0<2 by omega) rfl (DB _)) ?_
 simp only [go_sem]
 refine As (AQ (r:=⟨23,2,true,AG [(3,3)]⟩) (ts:=Aw [(3,3)]) 3 2 2 1 (by decide) rfl rfl rfl rfl (show 0<2 by omega) rfl (DB _)) ?_
 simp only [go_sem]
 refine As (MJ 3 [2,2,2,2] rfl) ?_
 simp only [Wf,Vp,go_sem]
 refine As (AQ (r:=⟨24,1,true,Br IB⟩) (ri:=⟨27,1,false,[.s 3 4]⟩) (ts:=AK IB) 4 0 3 4 (by decide) rfl rfl rfl rfl (show 0<1 by omega) rfl (GZ _)) ?_
 simp only [go_sem]
 refine As (CI 4 rfl) ?_
 simp only [Vp,go_sem]
 (refine VV ?_;(repeat clear hK K);repeat refine kq fun K hK=>?_)
 (refine W0 hnz ?_;intro K1 hK1)
 rintro _ _ ⟨rfl,rfl⟩
 (refine W1 ?_;clear hK1 K1)
 (refine SU ?_;(repeat clear hK K);repeat refine kq fun K hK=>?_)
 refine Bw (AQ (r:=⟨3,1,true,A9 [2]⟩) (ts:=Ac [2]) 8 0 6 1 (by decide) rfl rfl rfl rfl (show 0<1 by omega) rfl (ES _)) ?_
 simp only [go_sem]
 refine Bw (AQ (r:=⟨3,1,true,A9 [3]⟩) (ts:=Ac [3]) 8 1 7 1 (by decide) rfl rfl rfl rfl (show 0<1 by omega) rfl (ES _)) ?_
 simp only [go_sem]
 refine Bw (CI 8 rfl) ?_
 simp only [Vp,go_sem]
 refine Bw (AQ (r:=⟨3,1,true,A9 []⟩) (ts:=Ac []) 10 0 9 0 (by decide) rfl rfl rfl rfl (show 0<1 by omega) rfl (ES _)) ?_
 simp only [go_sem]
 refine Bw (CI 10 rfl) ?_
 simp only [Vp,go_sem]
 refine Bw (AQ (r:=⟨23,2,true,AG [(2,1),(3,1)]⟩) (ts:=Aw [(2,1),(3,1)]) 11 0 5 2 (by decide) rfl rfl rfl rfl (show 0<2 by omega) rfl (DB _)) ?_
 simp only [go_sem]
 refine Bw (AQ (r:=⟨37,1,true,Au [[2],[3]]⟩) (ts:=Az [[2],[3]]) 11 1 8 2 (by decide) rfl rfl rfl rfl (show 0<1 by omega) rfl (D0 _)) ?_
 simp only [go_sem]
 refine Bw (AQ (r:=⟨37,1,true,Au [[]]⟩) (ts:=Az [[]]) 11 4 10 1 (by decide) rfl rfl rfl rfl (show 0<1 by omega) rfl (D0 _)) ?_
 simp only [go_sem]
 refine Bw (MJ 11 [2,1,1,2,1,1] rfl) ?_
 simp only [Wf,We,Vp,go_sem]
 (refine Bw (B6 (r:=⟨35,3,true,cN O5⟩) 11 (tN O5) rfl (Pu _) (show 0<(3:Nat) by omega)) ?_;simp only [ST.frz,A0.frz,AV.frz,C.frz,Nat.le_refl,List.set_cons_zero,List.set_cons_succ,go_sem,show (tN O5).take 6=tN O5 from rfl,show (if 2*3<=(tN O5).length then C.t 3 (tN O5) else C.u)=C.t 3 (tN O5) from rfl])
 (refine AY rfl rfl (by simp only [go_sem] <;> rfl) ?_;intro K1 hK1;refine (Av (ids:=[]) (heq) rfl rfl (by simp only [go_sem]) (by kernel_rfl) (by (simp only [List.append_nil,go_sem]) <;> rfl) ?_).stp)
 rintro _ _ ⟨rfl,rfl⟩
 (refine W1 ?_;clear hK1 K1)
 (refine VV ?_;(repeat clear hK K);repeat refine kq fun K hK=>?_)
 exact OQ Tryz.results13
end Go.Proofs.YtbnabodoabimnaaGreat
