/- Lemmas. -/
import Derived.Test.YtjijjfkalheokaaGreatDoorMD
import Derived.Test.YtjijjfkalheokaaGreatDoorG67
import Derived.Test.YtjijjfkalheokaaGreatDoorZk
import Derived.Test.YtjijjfkalheokaaGreatDoorG45
import Derived.Test.YtjijjfkalheokaaGreatDoorG37
namespace Go.Proofs.YtjijjfkalheokaaGreatDoor
set_option linter.unusedVariables false
set_option linter.unusedSimpArgs false
open Go.RowKit

def Gh.inB (g:Gh) (r0:Row):Gh:=⟨g.γ,g.κ,Ow [.r { r0 with cells:=r0.cells.map VX }] g⟩
theorem NR {g:Gh} {r0:Row} (i j:Nat):¬ Lv [.r { r0 with cells:=r0.cells.map VX }] g (.cl i j):=by
 rintro ⟨r2,k,cs,e1,e2,_⟩
 cases i with
 | succ i=>simp at e1
 | zero=>
  simp at e1
  subst e1
  simp only [List.getElem?_map,Option.map_eq_some_iff] at e2
  obtain ⟨c,_,hc⟩:=e2
  exact JP hc
theorem Hv {g:Gh} {r0:Row} (ℓ:Loc) (hl:Lv [.r { r0 with cells:=r0.cells.map VX }] g ℓ):Lv [.r r0] g ℓ:=by
 cases ℓ with
 | cl i j=>exact absurd hl (NR i j)
 | ob q=>
  cases q with
  | succ q=>rcases hl with ⟨r2,e1,_⟩ | ⟨kv,e1⟩ <;> simp at e1
  | zero=>
   rcases hl with ⟨r2,e1,e2⟩ | ⟨kv,e1⟩
   ·exact .inl ⟨r0,rfl,e2⟩
   simp at e1
theorem Ri {g:Gh} {r0:Row} {w:World} (hr:HR g [.r r0] w) {j n:Nat} {k:Nat × Nat} {cs:List Tr} {y:Value} (hj:r0.cells[j]?=some (.o k cs)) (hy:CR g [.r r0] w (.b 0 j n) y):CR (g.inB r0) [] w (.t k.1 cs) y:=by
 obtain ⟨_,h2⟩:=hy
 obtain ⟨h3,h4,_,_⟩:=h2 r0 k cs rfl hj
 rcases hr.row 0 r0 rfl with ⟨k1,k2⟩ | ⟨k1,k2,arr,k3,k4,k5,k6,k7⟩
 ·rw [k2] at hj;simp at hj
 obtain ⟨u,u1,u2⟩:=k7 j _ hj
 have huy:u=y:=by
  rw [cell_of_row w _ j arr _ (0,0) k3,u1] at h4
  exact Option.some.inj h4
 subst huy
 have h:=DK (st:={ tm:=[],hp:=[.r r0],n:=0,pin:=0 }) (t:=.l k.1 cs) (hp':=[.r { r0 with cells:=r0.cells.map VX }]) (fun b _ ho=>ho.imp (fun h=>h) (fun ⟨ℓ,hl,e⟩=>⟨ℓ,Hv ℓ hl,e⟩)) hr rfl (NR 0) Hv hj (.inl rfl) u2
 refine h.mono fun b hb ho=>?_
 rcases ho with ho | ⟨ℓ,hl,_⟩
 ·exact ho
 cases ℓ with
 | ob id=>rcases hl with ⟨r,h,_⟩ | ⟨kv,h⟩ <;> simp at h
 | cl id j=>obtain ⟨r,k,cs,h,_⟩:=hl;simp at h
theorem FC.inB {P:Program} {f:FuncId} {A A':List AV} {r0:Row} {e:TypeId} {Q:List Int->Prop} (hFC:FC P f A [] (fun r o=>∃ L,Q L/\r=.a (.c (.s 0 L.length))/\o=[.r ⟨e,1,true,A7 L⟩]))
  (hA:∀ (g:Gh) (w:World) (vals:List Value),HR g [.r r0] w->GA g [.r r0] w A' vals->GA (g.inB r0) [] w A vals):
  FC P f A' [.r r0] (fun r o=>∃ L,Q L/\r=.a (.c (.s 1 L.length))/\o=[.r r0,.r ⟨e,1,true,A7 L⟩]):=by
 intro g w vals hr hargs
 have noL:∀ (g:Gh) (ℓ:Loc),¬ Lv [] g ℓ:=by
  intro g ℓ hl
  cases ℓ with
  | ob id=>rcases hl with ⟨r,h,_⟩ | ⟨kv,h⟩ <;> simp at h
  | cl id j=>obtain ⟨r,k,cs,h,_⟩:=hl;simp at h
 have how:∀ b,Ow [] (g.inB r0) b->Ow [.r r0] g b:=fun b ho=>by
  rcases ho with (ho | ⟨ℓ,hl,e⟩) | ⟨ℓ,hl,_⟩
  ·exact .inl ho
  ·exact .inr ⟨ℓ,Hv ℓ hl,e⟩
  exact absurd hl (noL _ ℓ)
 have hHR:HR (g.inB r0) [] w:=by
  refine ⟨fun b hb=>?_,fun ℓ hl=>absurd hl (noL _ ℓ),fun ℓ _ hl=>absurd hl (noL _ ℓ),fun id r h=>by simp at h,fun id r h=>by simp at h,hr.gl.keep (Nat.le_refl _) (fun _ _ _=>rfl) (fun k _ h=>how k h)⟩
  rcases hb with hb | ⟨ℓ,hl,e⟩
  ·exact hr.ml b hb
  rw [<- e];exact hr.lt (Hv ℓ hl)
 refine (hFC (g.inB r0) w vals hHR (hA g w vals hr hargs)).mono ?_
 rintro en w' ⟨v,r,outs,g',rfl,⟨L,hQ,rfl,rfl⟩,h1,h2,h3,h4,h5⟩
 have hnew:∀ ℓ,Lv [.r ⟨e,1,true,A7 L⟩] g' ℓ->w.heap.size<=g'.γ ℓ:=fun ℓ hl=>(h3 ℓ hl).elim (fun ⟨ℓ2,hl2,_⟩=>absurd hl2 (noL _ ℓ2)) (fun h=>h)
 have hfx:∀ b,b<w.heap.size->w'.heap[b]?=w.heap[b]?:=fun b hb=>h5.block b hb (fun ⟨ℓ,hl,_⟩=>noL _ ℓ hl)
 let g2:Gh:=⟨fun ℓ=>match ℓ with
  | .ob 0=>g.γ (.ob 0)
  | .ob (i+1)=>g'.γ (.ob i)
  | .cl 0 j=>g.γ (.cl 0 j)
  | .cl (i+1) j=>g'.γ (.cl i j),fun i=>match i with
  | 0=>g.κ 0
  | i+1=>g'.κ i,g.M⟩
 have split:∀ ℓ,Lv [.r r0,.r ⟨e,1,true,A7 L⟩] g2 ℓ->(Lv [.r r0] g ℓ/\g2.γ ℓ=g.γ ℓ)\/∃ ℓ',Lv [.r ⟨e,1,true,A7 L⟩] g' ℓ'/\g2.γ ℓ=g'.γ ℓ'/\ℓ=(match ℓ' with | .ob i=>.ob (i+1) | .cl i j=>.cl (i+1) j):=by
  intro ℓ hl
  cases ℓ with
  | ob q=>
   cases q with
   | zero=>
    rcases hl with ⟨r2,e1,e2⟩ | ⟨kv,e1⟩
    ·exact .inl ⟨.inl ⟨r2,e1,e2⟩,rfl⟩
    simp at e1
   | succ q=>
    rcases hl with ⟨r2,e1,e2⟩ | ⟨kv,e1⟩
    ·exact .inr ⟨.ob q,.inl ⟨r2,e1,e2⟩,rfl,rfl⟩
    exact .inr ⟨.ob q,.inr ⟨kv,e1⟩,rfl,rfl⟩
  | cl q j=>
   obtain ⟨r2,k,cs,e1,e2,e3⟩:=hl
   cases q with
   | zero=>exact .inl ⟨⟨r2,k,cs,e1,e2,e3⟩,rfl⟩
   | succ q=>exact .inr ⟨.cl q j,⟨r2,k,cs,e1,e2,e3⟩,rfl,rfl⟩
 have how2:∀ b,b<w.heap.size->Ow [.r r0,.r ⟨e,1,true,A7 L⟩] g2 b->Ow [.r r0] g b:=by
  rintro b hb (ho | ⟨ℓ,hl,e⟩)
  ·exact .inl ho
  rcases split ℓ hl with ⟨h6,h7⟩ | ⟨ℓ',h6,h7,_⟩
  ·exact .inr ⟨ℓ,h6,by rw [<- e,h7]⟩
  have:=hnew ℓ' h6
  rw [<- e,h7] at hb;omega
 have hmo:Mo g [.r r0] w g2 [.r r0,.r ⟨e,1,true,A7 L⟩] w' (fun _=>True):=by
  refine ⟨fun q hq=>?_,how2,h5.size,fun b hb _=>hfx b hb,fun q _ hq r2 j k cs e1 e2=>?_⟩
  ·obtain ⟨o,q1,q2⟩:=hq
   cases q with
   | zero=>exact ⟨⟨o,q1,q2⟩,rfl,rfl⟩
   | succ q=>simp at q1
  obtain ⟨o,q1,q2⟩:=hq
  cases q with
  | zero=>
   simp at e1
   subst e1
   exact ⟨_,rfl,e2,fun hlt=>World.cell?_of_block (hfx _ hlt)⟩
  | succ q=>simp at q1
 refine ⟨v,.a (.c (.s 1 L.length)),[.r r0,.r ⟨e,1,true,A7 L⟩],g2,rfl,⟨L,hQ,rfl,rfl⟩,?_,⟨by simp,rfl,fun i hi=>?_⟩,fun ℓ hl=>?_,?_,?_⟩
 rotate_left
 ·have:i=0:=by simp at hi;exact hi
  subst this
  exact ⟨rfl,rfl⟩
 ·rcases split ℓ hl with ⟨h6,h7⟩ | ⟨ℓ',h6,h7,_⟩
  ·exact .inl ⟨ℓ,h6,h7.symm⟩
  exact .inr (by rw [h7];exact hnew ℓ' h6)
 ·obtain ⟨b1,b2,A0,b3,b4,b5⟩:=h4
  exact ⟨⟨_,rfl,rfl⟩,b2,A0,b3,b4,b5⟩
 ·exact h5.mono fun k _ ⟨ℓ,hl,_⟩=>absurd hl (noL _ ℓ)
 refine ⟨fun b hb=>Nat.lt_of_lt_of_le (hr.ml b hb) h5.size,fun ℓ hl hM=>?_,fun ℓ ℓ' a1 a2 a3=>?_,fun q r2 e1=>?_,fun q kv e1=>?_,hmo.gl hr.gl⟩
 rotate_left 3
 ·cases q with
  | zero=>simp at e1
  | succ q=>
   cases q with
   | succ q=>simp at e1
   | zero=>simp at e1
 ·rcases split ℓ hl with ⟨h6,h7⟩ | ⟨ℓ',h6,h7,_⟩
  ·rw [h7] at hM;exact hr.md ℓ h6 hM
  have b1:=hr.ml _ hM
  have b2:=hnew ℓ' h6
  omega
 ·rcases split ℓ a1 with ⟨c1,c2⟩ | ⟨m,c1,c2,c3⟩ <;> rcases split ℓ' a2 with ⟨d1,d2⟩ | ⟨m',d1,d2,d3⟩
  ·exact hr.inj ℓ ℓ' c1 d1 (by rw [<- c2,<- d2];exact a3)
  ·have b1:=hr.lt c1
   have b2:=hnew m' d1
   omega
  ·have b1:=hr.lt d1
   have b2:=hnew m c1
   omega
  have:=h1.inj m m' c1 d1 (by rw [<- c2,<- d2];exact a3)
  rw [c3,d3,this]
 cases q with
 | zero=>
  simp at e1
  subst e1
  exact RowR.mo hmo rfl (hr.row 0 r0 rfl) (fun hk=>hfx _ (hr.lt (.inl ⟨r0,rfl,hk⟩))) (fun j k cs hc hne=>⟨rfl,hfx _ (hr.lt (ℓ:=.cl 0 j) ⟨r0,k,cs,rfl,hc,hne⟩)⟩)
 | succ q=>
  cases q with
  | succ q=>simp at e1
  | zero=>
   simp at e1
   subst e1
   rcases h1.row 0 _ rfl with h6 | ⟨k1,k2,arr,k3,k4,k5,k6,k7⟩
   ·exact .inl h6
   refine .inr ⟨k1,k2,arr,k3,k4,k5,k6,fun j c hj=>?_⟩
   obtain ⟨u,u1,u2⟩:=k7 j c hj
   simp only [A7,List.getElem?_map,Option.map_eq_some_iff] at hj
   obtain ⟨x,_,rfl⟩:=hj
   exact ⟨u,u1,u2⟩
theorem Jt {P:Program} {g:Gh} {hp:List Ob} {w:World} {t:TypeId} {ty:Ty} {id off:Nat} {r:Row} {k:Nat × Nat} {cs:List Tr} {p:Value} (hr:HR g hp w) (hty:tyOf P t=some ty) (hag:ty.agg=true) (hsz:ty.size=1) (hp1:CR g hp w (.p id off) p) (hrow:hp[id]?=some (.r r)) (hcell:r.cells[off]?=some (.o k cs)) (hk:0<k.1):
  ∃ v,(∀ W,Fp (fun _=>False) w W->(Instr.loadAt t p).run P W=.ok v W)/\AVR (CR g hp w) (.a (.g [.b id off (cs.length / k.1)])) v:=by
 obtain ⟨b1,b2⟩:=hp1
 rw [b2]
 rcases hr.row id r hrow with ⟨_,h2⟩ | ⟨_,_,arr,ha,hl,hs,hm,hcells⟩
 ·rw [h2] at hcell;simp at hcell
 obtain ⟨u,f1,f2⟩:=hcells _ _ hcell
 have hcu:w.cell? ⟨g.γ (.ob id),off,none⟩=some u:=by rw [cell_of_row _ _ _ _ _ _ ha];exact f1
 refine ⟨.agg #[u],fun W hW=>CI hty hag _ off [u] (by rw [hsz];rfl) (fun j v hj=>?_),[u],rfl,rfl,fun i c hi=>?_⟩
 ·cases j with
  | zero=>
   simp at hj
   subst hj
   exact (hW.cell (p:=⟨_,_,none⟩) (Array.getElem?_eq_some_iff.1 ha).1 (fun h=>h)).trans hcu
  | succ j=>simp at hj
 cases i with
 | succ i=>simp at hi
 | zero=>
  simp at hi
  subst hi
  refine ⟨u,rfl,b1,fun r' k' cs' e1 e2=>?_⟩
  rw [hrow] at e1;cases e1
  rw [hcell] at e2;cases e2
  refine ⟨(Array.getElem?_eq_some_iff.1 ha).1,hcu,?_⟩
  rcases f2 with ⟨h1,A,h2,_⟩ | ⟨_,n,cp,arr',h2,h3,_⟩
  ·rw [h1];simp;exact ⟨_,_,h2⟩
  rw [h3,Nat.mul_div_cancel _ hk];exact ⟨rfl,_,_,h2⟩
theorem Vv {P:Program} {ops:Array Oper} {o:Oper} {st:ST} {K:ST->Prop} {stop i:Nat} {past:Bool} {rest:List (Nat × Nat)} {t:TypeId} {y:Operand} {ty:Ty} {id off:Nat} {r:Row} {k:Nat × Nat} {cs:List Tr} (hi:ops[i]?=some o) (hg:o.guard=none) (hd:VJ o st.n=true) (ho:o.op=.load t y) (hty:tyOf P t=some ty) (hag:ty.agg=true) (hsz:ty.size=1) (hy:st.ev y=.a (.c (.p id off))) (hrow:st.hp[id]?=some (.r r)) (hcell:r.cells[off]?=some (.o k cs)) (hk:0<k.1)
  (h:CU P ops stop false past rest (st.put o.dst (.a (.g [.b id off (cs.length / k.1)]))) K):CU P ops stop false past ((i,1) :: rest) st K:=by
 intro M0 w0 a w w1 Q he hp hR hN
 obtain ⟨g,hpp,hR⟩:=hR
 have hyv:=hR.ev y
 rw [hy] at hyv
 obtain ⟨v,h1,h2⟩:=Jt hR.hr hty hag hsz hyv hrow hcell hk
 have hw:=he rfl
 subst hw
 refine ⟨o,v,hi,.inl ⟨by simp [Region.wanted,hg],fun W hW=>?_⟩,h M0 w0 _ w w Q he hp ⟨g,by cases o.dst <;> exact hpp,hR.put (B3 hd) h2⟩ hN⟩
 obtain ⟨dst,op,ty,pos,af,gd⟩:=o
 simp only at ho
 subst ho
 simp [execOp,h1 W hW]
set_option maxRecDepth 100000
attribute [local go_sem] lga C.pl C.one
def du (A:List (List Ar)) (cm oq:List Int) (dv:List Bool):Row:=⟨67,4,false,[.o (1,42) (Ah A),.o (1,3) (Ab cm),.o (1,3) (Ab oq),.o (1,4) (X6 dv)]⟩
theorem cX (R:List (List Ar)) (D oq:List Int) (dv:List Bool) (f rk:Nat->Nat) (hlo:∀ r∈R,∀ a∈r,0<=a.2/\a.2<(R.length:Int)) (htot:Bw R<=1000000) (hDl:D.length=R.length) (hD:∀ v,v<R.length->D[v]?=some (f v:Int)/\f v<R.length) (hE:∀ e∈Xy f R R.length,(e.1<R.length/\f e.1=e.1)/\e.2<R.length/\f e.2=e.2/\rk e.2<rk e.1) (hn:R.length<=1000000) (hr:∀ r∈R,r.length<=1000000) {n m:Nat}:FC Tryz.prog 75 [.a (.g [.b 0 0 n]),.a (.c (.b 0 1 m))] [.r (du R D oq dv)] (fun r o=>∃ Q,Hr (Xy f R R.length) R.length f Q/\r=.a (.c (.s 1 Q.length))/\o=[.r (du R D oq dv),AA (Q.map Int.ofNat)]):=by
 have h:=Ub R D f rk hlo htot hDl hD hE hn hr
 have h2:FC Tryz.prog 75 [B7 R,As D] [] (fun r o=>∃ L,(∃ Q,Hr (Xy f R R.length) R.length f Q/\L=Q.map Int.ofNat)/\r=.a (.c (.s 0 L.length))/\o=[.r ⟨3,1,true,A7 L⟩]):=h.mono fun r o ⟨Q,h1,h2,h3⟩=>⟨Q.map Int.ofNat,⟨Q,h1,rfl⟩,by rw [h2,List.length_map],h3⟩
 refine (FC.inB (A':=[.a (.g [.b 0 0 n]),.a (.c (.b 0 1 m))]) (r0:=du R D oq dv) h2 fun g w vals hr ⟨hl,ha⟩=>⟨hl,fun i x hx=>?_⟩).mono fun r o ⟨L,⟨Q,h1,e⟩,h2,h3⟩=>⟨Q,h1,by rw [h2,e,List.length_map],by rw [h3,e];rfl⟩
 match i,hx with
 | 0,hx=>
  cases hx
  obtain ⟨v,h1,us,h3,h4,h5⟩:=ha 0 _ rfl
  refine ⟨v,h1,us,h3,h4,fun i x hx=>?_⟩
  match i,hx with
  | 0,hx=>
   cases hx
   obtain ⟨u,h6,h7⟩:=h5 0 _ rfl
   exact ⟨u,h6,Ri hr rfl h7⟩
  | i+1,hx=>simp at hx
 | 1,hx=>
  cases hx
  obtain ⟨v,h1,h2⟩:=ha 1 _ rfl
  exact ⟨v,h1,(show AVR _ (.a (.c (.t 1 (Ab D)))) v from Ri hr (show (du R D oq dv).cells[1]?=some (.o (1,3) (Ab D)) from rfl) h2)⟩
 | i+2,hx=>simp at hx
theorem StpC.f {P:Program} {o:Oper} {st:ST} {K:ST->Prop} (h:StpC P o st K True):UB P o st K:=fun M0 w0 a w N Q hR hN=>h M0 w0 a w N Q hR fun st' a' w' h1 h2 h3=>hN st' a' w' h1 h2 (h3 trivial)
theorem cY (out:List Ar) (e t:Int):(Ax out).take (out.length*2)++[C.v (.int .i64 e),C.v (.int .i64 t)]=Ax (out++[(e,t)]):=by
 rw [gE7 (by rw [Ap];exact Nat.le_refl _),BF]
theorem Q9 {n:Nat} {r:List Ar} {k:Nat} (h:k<r.length):(XE n r).take (k+1)=(XE n r).take k++[(r[k].1,r[k].2+(n:Int))]:=by
 rw [gE8 (by rw [CO];exact h)]
 simp [XE]
theorem Qa {n:Nat} {R:List (List Ar)} {k:Nat} (h:k<R.length):(XF n R).take (k+1)=(XF n R).take k++[XE n R[k]]:=by
 rw [gE8 (by rw [Hs];exact h)]
 simp [XF]
set_option maxHeartbeats 4000000 in
theorem da (A R:List (List Ar)) (cm oq:List Int) (dv:List Bool) (hA:A=[]\/Bv A=true) (hv:Bv R=true) (hs1:A.length+R.length<=Tq) (hs2:Bw A+Bw R<=Ts) (hr:∀ r∈R,r.length<=1000000) (hrA:∀ r∈A,r.length<=1000000) (hC:CpOk A cm) (hB:DvL A dv):FC Tryz.prog 47 [.a (.c (.p 0 0)),B7 R] [.r (du A cm oq dv)] (fun r o=>r=.tup []/\∃ D Q B,CpOk (Eo A R) D/\DvL (Eo A R) B/\Hr (Xy (XG D) (Eo A R) (Eo A R).length) (Eo A R).length (XG D) Q/\o=[.r (du (Eo A R) D (Q.map Int.ofNat) B)]):=by
 refine A6 Tryz.func47 rfl (by rw [Tryz.ntmps47];simp) ?_
 rw [Tryz.ntmps47]
 simp only [Bf,B7,du]
 have hlo:BE R=true:=gEg (gE4 hv).1
 have hmS:Tq=16384:=rfl
 have hmA:Ts=262144:=rfl
 (refine Wu @A3 ?_;(repeat clear hK K);repeat refine kq fun K hK=>?_)
 refine A8 (fun s:Nat=>{ tm:=[(0,.a (.c (.p 0 0))),(3,.a (.c (.p 1 0))),(4,.i A.length),(19,.a (.c (.t 1 (Ah R)))),(20,.i R.length),(21,.i s)],hp:=[.r (du (A++(XF A.length R).take s) cm oq dv),.r ⟨25,1,false,[.t 1 (Ah R)]⟩],n:=97,pin:=1 }) (fun s=>s<=R.length) (fun s=>R.length - s) 0 ?_ ?_ ?_
 ·omega
 ·simp only [List.take_zero,List.append_nil,du]
  exact WE
 rintro s hs K hK
 simp only [du]
 by_cases hlt:s<R.length
 ·have d1:decide ((s:Int)<(R.length:Int))=true:=by simpa using hlt
  have hgR:=gE1 hlt
  have hrl:=hr _ (gE6 hlt)
  have htk:=Qa (n:=A.length) hlt
  have hbr:=fun a ha=>(gE4 hlo).2.2.2 _ (gE6 hlt) a ha
  have hol:(A++(XF A.length R).take s).length<=Tq:=by rw [List.length_append,List.length_take,Hs];omega
  have hnx:A++(XF A.length R).take (s+1)=(A++(XF A.length R).take s)++[XE A.length R[s]]:=by rw [htk,List.append_assoc]
  generalize R[s]=row at *
  generalize hO:A++(XF A.length R).take s=O at *
  (refine Wu (an @A3 @d1) ?_;(repeat clear hK K);repeat refine kq fun K hK=>?_)
  refine WB ?_
  (refine Wu (an @A3 (an (Ag hgR) (an @A2 @Ak))) ?_;(repeat clear hK K);repeat refine kq fun K hK=>?_)
  refine Au (CT 7 46 2 ?_) ?_
  ·simp only [go_sem]
  refine A8 (fun k:Nat=>{ tm:=[(0,.a (.c (.p 0 0))),(3,.a (.c (.p 1 0))),(4,.i A.length),(7,.a (.c (.s 2 k))),(19,.a (.c (.t 1 (Ah R)))),(20,.i R.length),(21,.i s),(25,.a (.c (.t 2 (Ao row)))),(26,.i row.length),(27,.i k)],hp:=[.r (du O cm oq dv),.r ⟨25,1,false,[.t 1 (Ah R)]⟩,.r ⟨46,2,true,Ax ((XE A.length row).take k)⟩],n:=97,pin:=1 }) (fun k=>k<=row.length) (fun k=>row.length - k) 0 ?_ ?_ ?_
  ·omega
  ·simp only [List.take_zero,du]
   exact WE
  rintro k hk K hK
  simp only [du]
  by_cases hlt2:k<row.length
  ·have d2:decide ((k:Int)<(row.length:Int))=true:=by simpa using hlt2
   have hat:=AL hlt2
   have hsl:=CO A.length row
   have hsk:=Q9 (n:=A.length) hlt2
   have hb:=(gE4 hlo).2.2.2
   have hkl:((XE A.length row).take k).length=k:=by rw [List.length_take,hsl];omega
   have ca:=cY ((XE A.length row).take k) row[k].1 (row[k].2+(A.length:Int))
   rw [hkl,<- hsk] at ca
   have hbk:=hbr _ (gE6 hlt2)
   generalize row[k]=a at *
   obtain ⟨e,t⟩:=a
   simp only at hat hbk ca
   (refine Wu @d2 ?_;(repeat clear hK K);repeat refine kq fun K hK=>?_)
   refine WB ?_
   (refine Cn (an @hat (an @A2 (an @Ak (an @Ap (an @hkl @ca))))) ?_;(repeat clear hK K);repeat refine kq fun K hK=>?_)
   refine WD ?_
   refine hK _ (k+1) (by omega) (by omega) ?_
   refine Le.trans (A9 [0,1,5] rfl rfl) ?_
   (try simp only [List.set_nil,List.take_nil,List.take_zero,List.map_append,go_sem])
   (try simp only [GS])
   simp only [du]
   exact WE
  have d2:decide ((k:Int)<(row.length:Int))=false:=by simpa using hlt2
  have hke:(XE A.length row).take k=XE A.length row:=gE7 (by rw [CO];omega)
  have hkl:(XE A.length row).length=k:=by rw [CO];omega
  rw [hke]
  (refine Wu @d2 ?_;(repeat clear hK K);repeat refine kq fun K hK=>?_)
  refine WC ?_
  (refine Wx ?_;repeat clear hK K)
  have hft:(if k*2<=(Ao (XE A.length row)).length then C.t 2 ((Ao (XE A.length row)).take (k*2)) else C.u)=C.t 2 (Ao (XE A.length row)):=by
   rw [if_pos (by rw [A2,hkl];exact Nat.le_refl _),gE7 (by rw [A2,hkl];exact Nat.le_refl _)]
  (refine Au (Bg (r:=⟨46,2,true,Ax (XE A.length row)⟩) 2 (Ao (XE A.length row)) rfl (Dl _) (show 0<(2:Nat) by omega)) ?_;simp only [ST.frz,A0.frz,AV.frz,C.frz,Nat.le_refl,List.set_cons_zero,List.set_cons_succ,go_sem,hft])
  generalize XE A.length row=q at *
  (refine Wu (an @A3 (an @List.set_cons_zero.{0} (an @List.set_cons_succ.{0} (an @List.take_succ_cons.{0} (an @List.take_zero.{0} (an @List.drop_zero.{0} (an @List.length_take.{0} (an @List.length_drop.{0} (an @List.length_append.{0} (an @A4 (an @Az (an @AN (an @Bm (an @A5 (an @AU (an @AE (an @B1 (an @AG @AM)))))))))))))))))) ?_;(repeat clear hK K);repeat refine kq fun K hK=>?_)
  have hcr:(Ah O).map C.ofTr++[C.t 2 (Ao q)]=AO (O++[q]):=by simp [AO,Ah,C.ofTr,Function.comp_def]
  refine WD ?_
  refine hK _ (s+1) (by omega) (by omega) ?_
  rw [hnx]
  simp only [hcr]
  refine Le.trans (AR (r:=⟨42,1,true,AO (O++[q])⟩) (ri:=⟨67,4,false,[.s 4 (O.length+1),.o (1,3) (Ab cm),.o (1,3) (Ab oq),.o (1,4) (X6 dv)]⟩) (ts:=Ah (O++[q])) 0 0 4 (O.length+1) (by decide) rfl rfl rfl rfl (show 0<1 by omega) (by rw [Ay];simp) (CZ _)) ?_
  simp only [go_sem]
  refine Le.trans (A9 [0,1] rfl rfl) ?_
  (try simp only [List.set_nil,List.take_nil,List.take_zero,List.map_append,go_sem])
  simp only [du]
  exact WE
 have d1:decide ((s:Int)<(R.length:Int))=false:=by simpa using hlt
 have hse:A++(XF A.length R).take s=Eo A R:=by rw [gE7 (by rw [Hs];omega)];rfl
 have hvW:=NH hA hv hs1 hs2
 have h1:1<=R.length:=(gE4 hlo).1
 rw [hse]
 (refine Wu @d1 ?_;(repeat clear hK K);repeat refine kq fun K hK=>?_)
 refine WC ?_
 (refine Wx ?_;repeat clear hK K)
 (refine Wt ?_;(repeat clear hK K);repeat refine kq fun K hK=>?_)
 (refine Wy (Kw R true hv h1 (by omega) hr) ?_;intro K1 hK1)
 rintro _ _ ⟨D,hD,rfl,rfl⟩
 have hAl:∀ x,x<A.length->∀ y∈WP true A x,y<A.length:=by
  rcases hA with rfl | hA
  ·intro x hx;simp at hx
  exact Cw true (gEg (gE4 hA).1)
 have hDb:=hC.both hAl hlo hD
 have hcl:cm.length=A.length:=hC.1
 have hDl:=hD.1
 (refine Wz ?_;clear hK1 K1)
 (refine Wu (an @A4 @hDl) ?_;(repeat clear hK K);repeat refine kq fun K hK=>?_)
 refine A8 (fun k:Nat=>{ tm:=[(0,.a (.c (.p 0 0))),(3,.a (.c (.p 1 0))),(4,.i A.length),(56,.a (.c (.t 1 (Ab D)))),(57,.i R.length),(58,.i k)],hp:=[.r (du (Eo A R) (cm++(D.map (·+(A.length:Int))).take k) oq dv),.r ⟨25,1,false,[.t 1 (Ah R)]⟩],n:=97,pin:=1 }) (fun k=>k<=R.length) (fun k=>R.length - k) 0 ?_ ?_ ?_
 ·omega
 ·simp only [List.take_zero,List.append_nil,du]
  exact WE
 clear hs hlt d1 hse
 rintro k hk K hK
 simp only [du]
 by_cases hlt:k<R.length
 ·have d2:decide ((k:Int)<(R.length:Int))=true:=by simpa using hlt
  have hkD:k<D.length:=by omega
  have gD:=Am (gE1 hkD)
  have hsn:cm++(D.map (·+(A.length:Int))).take (k+1)=(cm++(D.map (·+(A.length:Int))).take k)++[D[k]+(A.length:Int)]:=by
   rw [gE8 (by rw [List.length_map];exact hkD),<- List.append_assoc];simp
  have hbd:0<=D[k]/\D[k]<(R.length:Int):=by
   have:=BN hv hD hlt
   rw [gE1 hkD] at this
   have h3:=Option.some.inj this.1
   omega
  have hol:(cm++(D.map (·+(A.length:Int))).take k).length<=1000000:=by rw [List.length_append,List.length_take,List.length_map];omega
  generalize D[k]=x at *
  generalize cm++(D.map (·+(A.length:Int))).take k=O at *
  (refine Wu @d2 ?_;(repeat clear hK K);repeat refine kq fun K hK=>?_)
  refine WB ?_
  (refine Wu (an @gD (an @A4 (an @hDl (an @List.set_cons_zero.{0} (an @List.set_cons_succ.{0} (an @List.take_succ_cons.{0} (an @List.take_zero.{0} (an @List.drop_zero.{0} (an @List.length_take.{0} (an @List.length_drop.{0} (an @List.length_append.{0} (an @A4 (an @Az (an @AN (an @Bm (an @A5 (an @AU (an @AE (an @B1 (an @AG @AM)))))))))))))))))))) ?_;(repeat clear hK K);repeat refine kq fun K hK=>?_)
  refine WD ?_
  refine hK _ (k+1) (by omega) (by omega) ?_
  rw [hsn]
  refine Le.trans (AR (r:=⟨3,1,true,A7 (O++[x+(A.length:Int)])⟩) (ri:=⟨67,4,false,[.o (1,42) (Ah (Eo A R)),.s 3 (O.length+1),.o (1,3) (Ab oq),.o (1,4) (X6 dv)]⟩) (ts:=Ab (O++[x+(A.length:Int)])) 0 1 3 (O.length+1) (by decide) rfl rfl rfl rfl (show 0<1 by omega) (by rw [A5];simp) (EM _)) ?_
  simp only [go_sem]
  refine Le.trans (A9 [0,1] rfl rfl) ?_
  (try simp only [List.set_nil,List.take_nil,List.take_zero,List.map_append,go_sem])
  simp only [du]
  exact WE
 have d2:decide ((k:Int)<(R.length:Int))=false:=by simpa using hlt
 have hse:(D.map (·+(A.length:Int))).take k=D.map (·+(A.length:Int)):=gE7 (by rw [List.length_map];omega)
 rw [hse]
 have hDbl:=hDb.1
 have hWlo:BE (Eo A R)=true:=gEg (gE4 hvW).1
 have hWl:=CF A R
 have hWr:∀ r∈Eo A R,r.length<=1000000:=fun r hr2=>by
  rcases List.mem_append.1 hr2 with h | h
  ·exact hrA r h
  obtain ⟨q,hq,rfl⟩:=List.mem_map.1 h
  rw [CO];exact hr q hq
 have hWt:Bw (Eo A R)<=1000000:=by have:=(gE4 hWlo).2.2.1;omega
 have hord:=fun B n m=>cX (Eo A R) (cm++D.map (·+(A.length:Int))) oq B (XG (cm++D.map (·+(A.length:Int)))) (XH (Eo A R)) (n:=n) (m:=m) (fun r h a ha=>by have:=(gE4 hWlo).2.2.2 r h a ha;exact ⟨this.2.2.1,this.2.2.2⟩) hWt hDbl (fun v hv=>⟨(BN hvW hDb hv).1,(BN hvW hDb hv).2.1⟩) (Q5 hvW hDb) (by omega) hWr
 have hdvl:=hB.1
 generalize cm++D.map (·+(A.length:Int))=E at *
 (refine Wu @d2 ?_;(repeat clear hK K);repeat refine kq fun K hK=>?_)
 refine WC ?_
 (refine Wx ?_;repeat clear hK K)
 (refine Wt ?_;(repeat clear hK K);repeat refine kq fun K hK=>?_)
 (refine AJ [] (.m 0 0 0 (.m 1 0 0 (.m 2 0 0 (.m 3 0 0 (.m 4 1 7 (.m 5 1 6 (.a 6 (.a 7 (.m 8 0 0 (.m 9 0 0 (.a 10 .e))))))))))) (by kernel_rfl) (by kernel_rfl) (by intro c st h;simp [Ae,AF,VT] at h) ?_)
 (refine Ww @BD ?_;repeat clear hK K)
 (refine Wj rfl rfl ?_;intro K1 hK1;refine StpC.f (Bb (ids:=[]) (Nn R hv (by omega) hr) rfl rfl (by simp only [go_sem]) (by kernel_rfl) (by (simp only [List.append_nil,go_sem]) <;> rfl) ?_))
 rintro _ _ ⟨B,hBR,rfl,rfl⟩
 have hBl:=hBR.1
 (refine Wz ?_;clear hK1 K1)
 (refine Ga rfl rfl rfl ?_;intro K1 hK1;refine CK rfl rfl rfl rfl (by first | rfl | simp only [CQ,List.getD_cons_zero,List.getD_cons_succ,hne,List.isEmpty_cons,Bool.not_false,Bool.true_and,Bool.and_true,Bool.and_self]) rfl ?_;simp only [go_sem,BD,List.set_cons_zero,List.set_cons_succ,List.take_succ_cons,List.take_zero,List.drop_zero,List.length_take,List.length_drop,List.length_append,A4,Az,AN,Bm,A5,AU,AE,B1,AG,AM];(first | refine hK1 _ ?_ | refine AD (hK1 _ ?_));clear hK1 K1)
 (refine Ww @BD ?_;repeat clear hK K)
 (refine Wk rfl rfl rfl rfl ?_;intro K1 hK1;refine AP rfl ?_;simp only [go_sem];(first | refine hK1 _ ?_ | refine AD (hK1 _ ?_));clear hK1 K1)
 refine CL ⟨by simp,by simp,?_⟩
 (try simp only [Ae,AF])
 refine hK _ ?_
 clear hK K
 have hcb:(X6 dv).map C.ofTr++(X6 B).map C.ofTr=WU (dv++B):=by simp [WU,X6,C.ofTr,Function.comp_def]
 have hBb:=hB.both hAl hlo hBR
 have hcBl:(WU (dv++B)).length=dv.length+B.length:=by simp [WU]
 simp only [hcb]
 generalize dv++B=Z at *
 refine Au (AR (r:=⟨4,1,true,WU Z⟩) (ri:=⟨67,4,false,[.o (1,42) (Ah (Eo A R)),.o (1,3) (Ab E),.o (1,3) (Ab oq),.s 2 (dv.length+B.length)]⟩) (ts:=X6 Z) 0 3 2 (dv.length+B.length) (by decide) rfl rfl rfl rfl (show 0<1 by omega) (by rw [hcBl,Nat.mul_one]) (PP _)) ?_
 simp only [go_sem]
 refine Au (A9 [0] rfl rfl) ?_
 (try simp only [List.set_nil,List.take_nil,List.take_zero,List.map_append,go_sem])
 (refine Ac 9 [(0,0),(1,0),(2,0),(3,0),(4,1),(5,0),(6,0),(7,0),(8,1),(9,2),(10,0),(11,0),(12,2)] (by kernel_rfl) (by kernel_rfl) (by intro c st h;simp [Ae,AF,VT] at h) ?_)
 (refine Wp ?_;repeat clear hK K)
 (refine Vv (id:=0) (off:=0) (k:=(1,42)) (cs:=Ah (Eo A R)) rfl rfl rfl rfl ty25 rfl rfl (by simp only [go_sem]) rfl rfl (show 0<1 by omega) ?_;simp only [go_sem,A3])
 (refine Wq @A4 ?_;repeat clear hK K)
 (refine W1 rfl rfl rfl ?_;intro K1 hK1;refine AH (ids:=[]) [0] (hord Z (Eo A R).length E.length) rfl rfl (by simp only [go_sem]) (by first | assumption | kernel_rfl) rfl rfl (by (simp only [List.map_append,List.append_nil,go_sem]) <;> rfl) (by (simp only [VS,du,go_sem]) <;> rfl) ?_ ?_)
 ·rintro _ _ ⟨Q,h1,rfl,rfl⟩;rfl
 rintro _ _ ⟨Q,hQ,rfl,rfl⟩
 simp only [du,AA]
 (simp only [As,Bl,BQ,List.append_nil,List.nil_append,List.length_map,go_sem];refine hK1 _ ?_;clear hK1 K1)
 (refine Wp ?_;repeat clear hK K)
 refine H9 ?_
 (try simp only [Ae,AF])
 refine B6 (AR (r:=⟨3,1,true,A7 (Q.map Int.ofNat)⟩) (ri:=⟨67,4,false,[.o (1,42) (Ah (Eo A R)),.o (1,3) (Ab E),.s 1 Q.length,.o (1,4) (X6 Z)]⟩) (ts:=Ab (Q.map Int.ofNat)) 0 2 1 Q.length (by decide) rfl rfl rfl rfl (show 0<1 by omega) (by rw [A5];simp) (EM _)) ?_
 simp only [go_sem]
 refine WF [0] Tryz.results47 ?_
 exact ⟨E,Q,Z,hDb,hBb,hQ,rfl⟩
end Go.Proofs.YtjijjfkalheokaaGreatDoor
