/- Lemmas. -/
import Derived.Test.YtbnabodoabimnaaGreatMM
namespace Go.Proofs.YtbnabodoabimnaaGreat
set_option linter.unusedVariables false
set_option linter.unusedSimpArgs false
open Go.RowKit
set_option maxRecDepth 100000
theorem HY {P:Program} {o:Oper} {st:ST} {K:ST->Prop} {fop:Operand} {args:Array Operand} {ts:Array TypeId} {f:FuncId} {ids:List Nat} (σ:List Nat) {R:AV->List Ob->Prop}
  (hd:Vc o st.n=true) (ho:o.op=.call { callee:=.value fop,args:=args,argTypes:=ts }) (hf:st.ev fop=.a (.c (.f f ids))) (hcal:B3 P f=true) (hσ:B1 σ=true) (hlt:∀ i∈σ,i<st.hp.length)
  (hFC:FC P f ((args.toList.map st.ev++F9 ids).map (AV.ren σ)) (Vk st.hp σ) R)
  (hs:∀ r outs,R r outs->∀ (i:Nat) (o:Ob),outs[i]?=some o->i < σ.length->o.born=true)
  (hK:∀ r outs,R r outs->K ((st.back σ outs).put o.dst (r.up (Vn σ st.hp.length)))) {M0:Fm} {w0:World} {a:Act} {w:World} {N:Act->World->Prop} {Q:Exit->Act->World->Prop} (hR:Rel M0 w0 st a w)
  (hN:∀ g,(st.pin<=st.hp.length/\Ext st.pin M0.g g)->RelG g M0.P w0 st a w->∀ st' a' w',K st'->Rel M0 w0 st' a' w'->Fp (Gg (Vk st.hp σ) (g.pk σ g.M)) w w'->N a' w'):o.wp P a w N Q:=by
 obtain ⟨g,⟨hp1,hp2⟩,hR⟩:=hR
 let M':Nat->Prop:=fun b=>Ow st.hp g b/\¬ Gg (Vk st.hp σ) (g.pk σ g.M) b
 have hM:∀ b,M' b->Ow st.hp g b:=fun b h=>h.1
 have hlive:∀ ℓ,Lv (Vk st.hp σ) (g.pk σ M') ℓ->Lv (Vk st.hp σ) (g.pk σ g.M) ℓ:=fun ℓ hl=>by cases ℓ <;> exact hl
 have hlive':∀ ℓ,Lv (Vk st.hp σ) (g.pk σ g.M) ℓ->Lv (Vk st.hp σ) (g.pk σ M') ℓ:=fun ℓ hl=>by cases ℓ <;> exact hl
 have hγ:∀ ℓ,(g.pk σ M').γ ℓ=(g.pk σ g.M).γ ℓ:=fun ℓ=>by cases ℓ <;> rfl
 have hml:∀ b,M' b->b<w.heap.size:=fun b h=>by
  rcases h.1 with h1 | ⟨ℓ,h1,rfl⟩
  ·exact hR.hr.ml b h1
  exact hR.hr.lt h1
 have hmd:∀ ℓ,Lv (Vk st.hp σ) (g.pk σ M') ℓ->¬ M' ((g.pk σ M').γ ℓ):=fun ℓ hl h=>h.2 ⟨ℓ,hlive ℓ hl,(hγ ℓ).symm⟩
 have hHR:HR (g.pk σ M') (Vk st.hp σ) w:=hR.hr.pk hM hml hmd hσ
 have hfv:=hR.ev fop
 rw [hf] at hfv
 obtain ⟨hids,hfv⟩:=hfv
 have hargs:HQ (g.pk σ M') (Vk st.hp σ) w ((args.toList.map st.ev++F9 ids).map (AV.ren σ)) ((args.map a.eval).toList++ids.map fun id=>Value.pointer (some ⟨g.γ (.ob id),0,none⟩)):=by
  refine ⟨by simp [F9],fun i x hx=>?_⟩
  rw [gAC,gBG] at hx
  obtain ⟨y,hy,rfl⟩:=hx
  rcases gBx i (args.toList.map st.ev).length with hl | hl
  ·rw [gEa hl,gAC,gBG] at hy
   obtain ⟨q,hq,rfl⟩:=hy
   refine ⟨a.eval q,?_,AVR.ren hM (hR.ev q)⟩
   rw [gEa (by simpa using hl)]
   simp only [Array.toList_map,gAC,hq,gBH]
  rw [gEb hl] at hy
  unfold F9 at hy
  rw [gAC,gBG] at hy
  obtain ⟨id,hid,rfl⟩:=hy
  refine ⟨.pointer (some ⟨g.γ (.ob id),0,none⟩),?_,AVR.ren hM ⟨hids id (gE9 hid),rfl⟩⟩
  rw [gEb (by simpa using hl)]
  simp only [gAN,Array.toList_map] at hid ⊢
  rw [gAC,hid];rfl
 have hcall:=hFC (g.pk σ M') w _ hHR hargs
 unfold Oper.wp execOp
 simp only [ho,resolve,hfv,V2,Deferred.ofValue,Sem.run_bind,Sem.run_pure,Result.andThen_ok,invoke]
 have e1:(#[]++args.map a.eval++(ids.map fun id=>Value.pointer (some ⟨g.γ (.ob id),0,none⟩)).toArray)=((args.map a.eval).toList++ids.map fun id=>Value.pointer (some ⟨g.γ (.ob id),0,none⟩)).toArray:=by simp
 rw [e1,C4 hcal]
 refine Calls.mono hcall ?_
 rintro e w' ⟨v,r,outs,g',rfl,hr,hHR',⟨hlen,hext⟩,hnew,hv,hfp⟩
 have hpl:(Vk st.hp σ).length=σ.length:=by simp [Vk]
 have hB:Bk g g' st.hp outs w w' σ:=by
  refine ⟨hR.hr,hHR',by rw [<- hpl];exact hlen,hσ,hlt,fun b hb=>?_,fun b hb hMb=>?_,hfp.size,fun b hb ho=>?_,fun i id hi=>?_,fun ℓ hl=>?_⟩
  rotate_left
  ·rw [hext.1] at hMb
   exact hfp.block b hb (fun ⟨ℓ,hl,e⟩=>hmd ℓ hl (e ▸ hMb))
  ·refine hfp.block b hb (fun ⟨ℓ,hl,e⟩=>ho (.inr ⟨τ σ ℓ,(Dx hl).1,?_⟩))
   rw [<- e,Cj]
  ·have hi':i<(Vk st.hp σ).length:=by rw [hpl];exact (List.getElem?_eq_some_iff.1 hi).1
   obtain ⟨p1,p2⟩:=hext.2 i hi'
   refine ⟨p1.trans ?_,p2.trans ?_⟩
   ·rw [Cj];simp only [τ,AO hi]
   show g.κ (σ.getD i 0)=_;rw [AO hi]
  ·rcases hnew ℓ hl with ⟨ℓ0,q1,q2⟩ | q
   rotate_left
   ·exact .inr q
   left
   exact ⟨τ σ ℓ0,(Dx q1).1,by rw [<- q2,Cj]⟩
  rw [hext.1]
  show M' b
  rcases hb with hb | ⟨ℓ,hl,rfl,hn⟩
  ·refine ⟨.inl hb,fun ⟨ℓ,hl,e⟩=>?_⟩
   rw [Cj] at e
   exact hR.hr.md _ (Dx hl).1 (e ▸ hb)
  refine ⟨.inr ⟨ℓ,hl,rfl⟩,fun ⟨ℓ',hl',e⟩=>?_⟩
  rw [Cj] at e
  obtain ⟨q1,id,q2⟩:=Dx hl'
  have:=hR.hr.inj _ _ q1 hl e
  subst this
  cases ℓ' with
  | ob i=>simp only [τ] at hn q2;rw [AO q2] at hn;exact hn (gE9 q2)
  | cl i j=>simp only [τ] at hn q2;rw [AO q2] at hn;exact hn (gE9 q2)
 have hsb:∀ i id,σ[i]?=some id->Bn st.hp id->Bn outs i:=by
  intro i id hi _
  have hil:i < σ.length:=(List.getElem?_eq_some_iff.1 hi).1
  have hlt':i<outs.length:=by have:=hB.len;omega
  exact ⟨outs[i],gE1 hlt',hs r outs hr i _ (gE1 hlt') hil⟩
 have hmo:=hB.mo hsb
 have hback:RelG (g.bk g' σ st.hp.length) M0.P w0 (st.back σ outs) a w':=by
  refine ⟨hB.hrb hsb,fun ℓ hl=>?_,fun d=>?_,hR.n,hR.df,?_⟩
  ·rcases hB.lv hl with ⟨ℓ',h1,h2,_⟩ | ⟨h1,h2,_⟩
   rotate_left
   ·rw [h2];exact hR.new ℓ h1
   rw [h2]
   rcases hB.new ℓ' h1 with ⟨ℓ0,q1,q2⟩ | q
   ·rw [<- q2];exact hR.new ℓ0 q1
   exact .inr (gBv hR.fp.size q)
  ·show AVR _ (Ek (Oh σ st.tm) d) _
   have key:=AVR.nb (σ:=σ) (fun c y hc=>C.nb_ok hmo hc) (hR.tm d)
   cases σ with
   | nil=>exact AVR.mo ⟨hmo.bn,hmo.ow,hmo.sz,hmo.fx,fun id _=>hmo.bo id (by simp)⟩ (hR.tm d)
   | cons s σ'=>
    have e2:Ek (Oh (s :: σ') st.tm) d=(st.get d).nb (s :: σ'):=Em _ rfl st.tm d
    rw [e2];exact key
  refine ⟨hfp.os.trans hR.fp.os,hfp.tape.trans hR.fp.tape,hfp.output.trans hR.fp.output,gBv hR.fp.size hfp.size,fun k hk hMk=>?_,gBv hR.fp.drawn hfp.drawn⟩
  rw [<- hR.fp.block k hk hMk]
  refine hfp.block k (gBw hk hR.fp.size) (fun ⟨ℓ,hl,e⟩=>?_)
  have h1:=(Dx hl).1
  rw [Cj] at e
  rcases hR.new _ h1 with q | q
  ·exact hMk (e ▸ q)
  omega
 refine hN g ⟨hp1,hp2⟩ hR _ _ _ (hK r outs hr) ⟨g.bk g' σ st.hp.length,⟨?_,?_⟩,hback.put (B5 hd) (AVR.up (fun c y hc=>hB.up hc) hv)⟩ (hfp.mono fun b _ ⟨ℓ,hl,e⟩=>⟨ℓ,hlive ℓ hl,by rw [<- hγ ℓ];exact e⟩)
 ·have:st.pin<=(st.back σ outs).hp.length:=by
   show st.pin<=(Do st.hp σ _).length
   rw [Gs _ _ _ (by simpa using hB.len)]
   omega
  cases o.dst <;> exact this
 have hx:Ext st.pin M0.g (g.bk g' σ st.hp.length):=by
  refine hp2.trans ⟨rfl,fun i hi=>?_⟩
  cases hdn:dn σ st.hp.length i with
  | none=>simp [Gh.bk,hdn]
  | some j=>
   have hσj:σ[j]?=some i:=by
    unfold dn at hdn
    split at hdn
    rotate_left
    ·rw [if_neg (by omega)] at hdn;cases hdn
    rename_i i' hi'
    cases hdn
    exact BA hi'
   obtain ⟨p1,p2⟩:=hB.pin j i hσj
   simp [Gh.bk,hdn,p1,p2]
 cases o.dst <;> exact hx
def XB (σ:List Nat) (g:Gh) (b:Nat):Prop:=∃ id∈σ,b=g.γ (.ob id)
def Mq (P:Program) (o:Oper) (st:ST) (K:ST->Prop) (σ:List Nat):Prop:=
 ∀ (M0:Fm) (w0:World) (a:Act) (w:World) (N:Act->World->Prop) (Q:Exit->Act->World->Prop),Rel M0 w0 st a w->(∀ st' a' w',K st'->Rel M0 w0 st' a' w'->Fp (XB σ M0.g) w w'->N a' w')->o.wp P a w N Q
def VE:Ob->Bool
 | .r r=>r.cells.all C.pl
 | .m _=>false
 | _=>true
def OK (hp:List Ob):List Nat->Bool
 | []=>true
 | id :: r=>VE (hp.getD id .d) && OK hp r
theorem OL {hp:List Ob} {σ:List Nat} (h:OK hp σ=true) {id:Nat} (hi:id∈σ):VE (hp.getD id .d)=true:=by
 induction σ with
 | nil=>simp at hi
 | cons x r ih=>
  simp only [OK,gA1] at h
  rcases gB2.1 hi with rfl | hi
  ·exact h.1
  exact ih h.2 hi
def Dy (n:Nat):List Nat->Bool
 | []=>true
 | x :: r=>Nat.blt x n && Dy n r
theorem Cb {n:Nat} {σ:List Nat} (h:Dy n σ=true) {id:Nat} (hi:id∈σ):id<n:=by
 induction σ with
 | nil=>simp at hi
 | cons x r ih=>
  simp only [Dy,gA1] at h
  rcases gB2.1 hi with rfl | hi
  ·simpa [Nat.blt_eq] using h.1
  exact ih h.2 hi
theorem QU {hp:List Ob} {g:Gh} {M0:Fm} {n:Nat} {σ:List Nat} (hx:Ext n M0.g g) (hn:OK hp σ=true) (hl:Dy n σ=true) {b:Nat} (h:Gg (Vk hp σ) (g.pk σ g.M) b):XB σ M0.g b:=by
 obtain ⟨ℓ,hlv,rfl⟩:=h
 obtain ⟨h1,id,h2⟩:=Dx hlv
 rw [Cj]
 cases ℓ with
 | ob i=>
  have hi:=gE9 h2
  refine ⟨id,hi,?_⟩
  simp only [τ,AO h2]
  exact (hx.2 id (Cb hl hi)).1
 | cl i j=>
  exfalso
  simp only at h2
  have hi:=gE9 h2
  have hno:=OL hn hi
  obtain ⟨r,k,cs,e1,e2,_⟩:=h1
  simp only [AO h2] at e1
  rw [List.getD,e1] at hno
  simp only [gBF,VE,gAg] at hno
  have:=hno _ (gE9 e2)
  cases this
theorem BL {P:Program} {o:Oper} {st:ST} {K:ST->Prop} {fop:Operand} {args:Array Operand} {ts:Array TypeId} {f:FuncId} {ids:List Nat} {R:AV->List Ob->Prop} {A:List AV} {I:List Ob} (σ:List Nat) (hFC:FC P f A I R)
  (hd:Vc o st.n=true) (ho:o.op=.call { callee:=.value fop,args:=args,argTypes:=ts }) (hf:st.ev fop=.a (.c (.f f ids))) (hcal:B3 P f=true) (hσ:B1 σ=true) (hn:OK st.hp σ=true) (hlt:Dy st.pin σ=true)
  (hA:(args.toList.map st.ev++F9 ids).map (AV.ren σ)=A) (hI:Vk st.hp σ=I)
  (hs:∀ r outs,R r outs->∀ (i:Nat) (o:Ob),outs[i]?=some o->i < σ.length->o.born=true)
  (hK:∀ r outs,R r outs->K ((st.back σ outs).put o.dst (r.up (Vn σ st.hp.length)))):Mq P o st K σ:=by
 subst hA;subst hI
 intro M0 w0 a w N Q hR hN
 have hpl:∀ i∈σ,i<st.hp.length:=by
  obtain ⟨g,⟨h1,_⟩,_⟩:=hR
  intro i hi
  have:=Cb hlt hi;omega
 exact HY σ hd ho hf hcal hσ hpl hFC hs hK hR fun g hx _ st' a' w' h1 h2 h3=>hN st' a' w' h1 h2 (h3.mono fun b _ hb=>QU hx.2 hn hlt hb)
theorem FL {P:Program} {g:Gh} {hp:List Ob} {w:World} {ev:Operand->AV} {ρ:Operand->Value} {c:Prop} {x:AV} (hr:HR g hp w) (hR:∀ x,AVR (CR g hp w) (ev x) (ρ x)) {t:TypeId} {y:Operand} {id off:Nat} (hy:ev y=.a (.c (.p id off))) (h:DX P ev hp t y=some (c,x)) (hc:c):
  (∃ r,hp[id]?=some (.r r)/\g.κ id ≠ 0)/\∃ v,(∀ W,W.heap[g.γ (.ob id)]?=w.heap[g.γ (.ob id)]?->(Instr.loadAt t (ρ y)).run P W=.ok v W)/\AVR (CR g hp w) x v:=by
 have hyv:=hR y
 rw [hy] at hyv
 obtain ⟨b1,b2⟩:=hyv
 have hrow:∃ r,hp[id]?=some (.r r)/\g.κ id ≠ 0:=by
  unfold DX at h
  rw [hy] at h
  split at h
  rotate_left
  ·rename_i hev;cases hev
  ·cases h
  rename_i ty id' off' hty hev
  cases hev
  split at h
  rotate_left
  ·cases h
  rename_i r hrow
  refine ⟨r,hrow,fun h0=>?_⟩
  rcases hr.row id r hrow with ⟨_,h2⟩ | ⟨h2,_⟩
  rotate_left
  ·exact h2 h0
  rw [h2] at h
  split at h
  rotate_left
  ·simp at h
  simp only [gBI,gBJ] at h
  obtain ⟨rfl,_⟩:=h
  simp at hc
  omega
 refine ⟨hrow,?_⟩
 unfold DX at h
 rw [hy] at h
 rw [b2]
 split at h
 rotate_left
 ·rename_i hev;cases hev
 ·cases h
 rename_i ty id off hty hev
 obtain ⟨rfl,rfl⟩:_/\_:=by simpa using hev
 split at h
 rotate_left
 ·cases h
 rename_i r hrow
 rcases hr.row id r hrow with ⟨_,h2⟩ | ⟨_,_,arr,ha,hl,hs,hm,hcells⟩
 ·exfalso
  rw [h2] at h
  split at h
  rotate_left
  ·simp at h
  simp only [gBI,gBJ] at h
  obtain ⟨rfl,rfl⟩:=h
  simp at hc
  omega
 split at h
 ·rename_i hag
  simp only [gBI,gBJ] at h
  obtain ⟨rfl,rfl⟩:=h
  obtain ⟨c1,_,c2⟩:=hc
  have hLR:LR (CR g hp w) ((r.cells.drop off).take ty.size) ((arr.toList.drop off).take ty.size):=by
   refine ⟨by simp;omega,fun i c hi=>?_⟩
   have hpl:c.pl=true:=gAg.1 c2 c (gE9 hi)
   rw [gAF] at hi ⊢
   split at hi
   rotate_left
   ·cases hi
   rename_i hlt
   rw [gAA] at hi ⊢
   obtain ⟨u,f1,f2⟩:=hcells _ c hi
   exact ⟨u,by rw [if_pos hlt];simpa using f1,f2.cr hpl⟩
  refine ⟨_,fun W hW=>Di hty hag _ off _ (by simp;omega) (fun j u hj=>?_),_,rfl,hLR⟩
  rw [World.cell?_of_block (a:=⟨_,_,none⟩) hW,cell_of_row _ _ _ _ _ _ ha]
  rw [gAF] at hj
  split at hj
  rotate_left
  ·cases hj
  rw [gAA] at hj
  simpa using hj
 rename_i hag
 split at h
 rotate_left
 ·rename_i c' hno hcell
  simp only [gBI,gBJ] at h
  obtain ⟨rfl,rfl⟩:=h
  obtain ⟨u,f1,f2⟩:=hcells _ _ hcell
  have hcu:w.cell? ⟨g.γ (.ob id),off,none⟩=some u:=by rw [cell_of_row _ _ _ _ _ _ ha];exact f1
  refine ⟨u,fun W hW=>C3 hty (by simpa using hag) _ _ u ((World.cell?_of_block (a:=⟨_,_,none⟩) hW).trans hcu),?_⟩
  cases c' with
  | o k cs=>exact absurd rfl (hno k cs)
  | b _ _ _=>exact f2.elim
  | _=>exact f2
 ·cases h
 rename_i k cs hcell
 simp only [gBI,gBJ] at h
 obtain ⟨rfl,rfl⟩:=h
 obtain ⟨u,f1,f2⟩:=hcells _ _ hcell
 have hcu:w.cell? ⟨g.γ (.ob id),off,none⟩=some u:=by rw [cell_of_row _ _ _ _ _ _ ha];exact f1
 refine ⟨u,fun W hW=>C3 hty (by simpa using hag) _ _ u ((World.cell?_of_block (a:=⟨_,_,none⟩) hW).trans hcu),b1,fun r' k' cs' e1 e2=>?_⟩
 rw [hrow] at e1;cases e1
 rw [hcell] at e2;cases e2
 refine ⟨(Array.getElem?_eq_some_iff.1 ha).1,hcu,?_⟩
 rcases f2 with ⟨h1,A,h2,_⟩ | ⟨_,n,cp,arr',h2,h3,_⟩
 ·rw [h1];simp;exact ⟨_,_,h2⟩
 rw [h3,Nat.mul_div_cancel _ hc];exact ⟨rfl,_,_,h2⟩

theorem FM {ops:Array Oper} {o:Oper} {st:ST} {dd:Option Nat} {want:Bool} {g:Gh} {M0:Nat->Prop} {w0 w:World} {a:Act} {A B:Prop} (hx:JO ops o=some (dd,want)) (hR:RelG g M0 w0 st a w) (h:gv (Iy st dd) want A B):
  (Region.wanted o (yielded ops a.tmps)=true/\A)\/(Region.wanted o (yielded ops a.tmps)=false/\B):=by
 rcases D5 hx with ⟨hg,rfl,rfl⟩ | ⟨j,d,hg,hj,rfl⟩
 ·exact .inl ⟨by simp [Region.wanted,hg],h⟩
 rcases BW h with ⟨h1,h2⟩ | ⟨v,h1,h2,h3⟩
 ·exact .inl ⟨Gu hg hj h1 hR,h2⟩
 exact .inr ⟨Gv hg hj h1 h2 hR,h3⟩
def EO (P:Program) (ops:Array Oper) (σ:List Nat) (l:List (Nat × Nat × Nat)) (done ss:List Nat) (st:ST) (K:ST->Prop):Prop:=
 ∀ (M0:Fm) (w0:World) (a:Act) (w:World) (Q:Exit->Act->World->Prop) (cs:Cs),(∀ c∈cs,c.1∈ss/\∀ W W',c.2 W->Fp (XB σ M0.g) W W'->c.2 W')->(∀ c∈cs,c.1∈done\/c.2 w)->Rel M0 w0 st a w->(∀ st' a' w',K st'->Rel M0 w0 st' a' w'->Q .normal a' w')->
  VD P ops Q l done cs a w
def Ct (hp:List Ob):List Nat->Bool
 | []=>true
 | id :: r=>(match hp.getD id .d with | .r q=>!q.cells.isEmpty | _=>false) && Ct hp r
theorem D6 {hp:List Ob} {σ:List Nat} (h:Ct hp σ=true) {id:Nat} (hi:id∈σ):∃ r,hp[id]?=some (.r r)/\r.cells ≠ []:=by
 induction σ with
 | nil=>simp at hi
 | cons x r ih=>
  simp only [Ct,gA1] at h
  rcases gB2.1 hi with rfl | hi
  rotate_left
  ·exact ih h.2 hi
  have h1:=h.1
  split at h1
  rotate_left
  ·cases h1
  rename_i q hq
  refine ⟨q,?_,by simpa using h1⟩
  cases hh:hp[id]? with
  | none=>rw [List.getD,hh] at hq;cases hq
  | some o=>rw [List.getD,hh] at hq;simp at hq;rw [hq]
def FN:List Nat->List Nat->Bool
 | [],_=>true
 | s :: r,d=>d.contains s && FN r d
theorem DM {ss d:List Nat} (h:FN ss d=true) {s:Nat} (hs:s∈ss):s∈d:=by
 induction ss with
 | nil=>simp at hs
 | cons x r ih=>
  simp only [FN,gA1] at h
  rcases gB2.1 hs with rfl | hs
  ·simpa using h.1
  exact ih h.2 hs
section
variable {P : Program} {ops : Array Oper} {o : Oper} {st : ST} {K : ST -> Prop} {i s : Nat} {want : Bool} {dd : Option Nat} {rest : List (Nat × Nat × Nat)} {σ done ss : List Nat}
theorem OM (h:K st):EO P ops σ [] done ss st K:=fun _ _ _ _ _ _ _ _ hR hN=>hN _ _ _ h hR
theorem VF (hi:ops[i]?=some o) (hx:JO ops o=some (dd,want)) (hd:Vc o st.n=true) (h:∀ K':ST->Prop,(∀ st',EO P ops σ rest done ss st' K->K' st')->gv (Iy st dd) want (Vd P o st K') (K' (st.put o.dst (.a (.c (.v undef)))))):EO P ops σ ((i,0,s) :: rest) done ss st K:=by
 intro M0 w0 a w Q cs h1 h2 hR hN
 obtain ⟨g,hpp,hR'⟩:=hR
 rcases FM hx hR' (h (fun st'=>EO P ops σ rest done ss st' K) (fun _ h=>h)) with ⟨hw,he⟩ | ⟨hw,he⟩
 rotate_left
 ·exact ⟨o,undef,hi,.inr ⟨hw,rfl⟩,he M0 w0 _ w Q cs h1 h2 ⟨g,by cases o.dst <;> exact hpp,hR'.put (B5 hd) rfl⟩ hN⟩
 unfold Vd at he
 split at he
 rotate_left
 ·exact he.elim
 rename_i c x hop
 obtain ⟨v,e1,e2⟩:=FE (P:=P) (ρ:=a.eval) (ev:=st.ev) hR'.ev hop he.1
 exact ⟨o,v,hi,.inl ⟨hw,fun W _=>e1 W⟩,he.2 M0 w0 _ w Q cs h1 h2 ⟨g,by cases o.dst <;> exact hpp,hR'.put (B5 hd) e2⟩ hN⟩
theorem VG {t:TypeId} {y:Operand} {id off:Nat} (hi:ops[i]?=some o) (hx:JO ops o=some (dd,want)) (hd:Vc o st.n=true) (ho:o.op=.load t y) (hy:st.ev y=.a (.c (.p id off))) (hpin:Nat.blt id st.pin=true) (hσ:σ.contains id=false) (hrows:Ct st.hp σ=true) (hlt:Dy st.pin σ=true)
  (h:∀ K':ST->Prop,(∀ st',EO P ops σ rest done (s :: ss) st' K->K' st')->gv (Iy st dd) want (Ve P o st K') (K' (st.put o.dst (.a (.c (.v undef)))))):EO P ops σ ((i,1,s) :: rest) done ss st K:=by
 intro M0 w0 a w Q cs h1 h2 hR hN
 obtain ⟨g,hpp,hR'⟩:=hR
 have hpin':id<st.pin:=by simpa [Nat.blt_eq] using hpin
 rcases FM hx hR' (h (fun st'=>EO P ops σ rest done (s :: ss) st' K) (fun _ h=>h)) with ⟨hw,he⟩ | ⟨hw,he⟩
 rotate_left
 ·refine ⟨o,undef,fun _=>True,hi,.inr ⟨hw,rfl⟩,trivial,he M0 w0 _ w Q _ (fun c hc=>?_) (fun c hc=>?_) ⟨g,by cases o.dst <;> exact hpp,hR'.put (B5 hd) rfl⟩ hN⟩
  rotate_left
  ·rcases gB2.1 hc with rfl | hc
   ·exact .inr trivial
   exact h2 c hc
  rcases gB2.1 hc with rfl | hc
  ·exact ⟨by simp,fun _ _ _ _=>trivial⟩
  exact ⟨by simp [(h1 c hc).1],(h1 c hc).2⟩
 unfold Ve at he
 split at he
 rotate_left
 ·exact he.elim
 rename_i c x hop
 have hop':DX P st.ev st.hp t y=some (c,x):=by rw [ho] at hop;exact hop
 obtain ⟨⟨r,hrow,hk⟩,v,e1,e2⟩:=FL (P:=P) (ρ:=a.eval) hR'.hr hR'.ev hy hop' he.1
 have hlive:Lv st.hp g (.ob id):=.inl ⟨r,hrow,hk⟩
 have hbl:=hR'.hr.lt hlive
 have hxb:¬ XB σ M0.g (g.γ (.ob id)):=by
  rintro ⟨id',hi',e⟩
  obtain ⟨r',q1,q2⟩:=D6 hrows hi'
  rw [<- (hpp.2.2 id' (Cb hlt hi')).1] at e
  have hl':Lv st.hp g (.ob id'):=.inl ⟨r',q1,fun h0=>by
   rcases hR'.hr.row id' r' q1 with ⟨_,z⟩ | ⟨z,_⟩
   ·exact q2 z
   ·exact z h0⟩
  have:=hR'.hr.inj _ _ hlive hl' e
  cases this
  rw [gAn] at hσ
  simp at hσ;exact hσ hi'
 refine ⟨o,v,fun W=>W.heap[g.γ (.ob id)]?=w.heap[g.γ (.ob id)]?,hi,.inl ⟨hw,fun W hW=>?_⟩,rfl,he.2 M0 w0 _ w Q _ (fun c hc=>?_) (fun c hc=>?_) ⟨g,by cases o.dst <;> exact hpp,hR'.put (B5 hd) e2⟩ hN⟩
 rotate_left 2
 ·rcases gB2.1 hc with rfl | hc
  ·exact .inr rfl
  exact h2 c hc
 ·have:=e1 W hW
  unfold execOp
  simp [ho,this]
 rcases gB2.1 hc with rfl | hc
 rotate_left
 ·exact ⟨by simp [(h1 c hc).1],(h1 c hc).2⟩
 refine ⟨by simp,fun W W' hW hf=>?_⟩
 have:g.γ (.ob id)<W.heap.size:=by
  rcases gBx (g.γ (.ob id)) W.heap.size with h | h
  ·exact h
  simp only at hW
  rw [Array.getElem?_eq_none h,gEd hbl] at hW;cases hW
 exact (hf.block _ this hxb).trans hW
theorem QV {P:Program} {g:Gh} {hp:List Ob} {w:World} {ev:Operand->AV} {ρ:Operand->Value} {c:Prop} {x:AV} (hR:∀ x,AVR (CR g hp w) (ev x) (ρ x)) {t:TypeId} {y:Operand} {cs:List Tr} {off:Nat} (hy:ev y=.a (.c (.q cs off))) (h:DX P ev hp t y=some (c,x)) (hc:c):
  ∃ b,b<w.heap.size/\¬ Ow hp g b/\∃ v,(∀ W,W.heap[b]?=w.heap[b]?->(Instr.loadAt t (ρ y)).run P W=.ok v W)/\AVR (CR g hp w) x v:=by
 have hyv:=hR y
 unfold DX at h
 rw [hy] at hyv h
 split at h
 rotate_left 2
 ·cases h
 ·rename_i hev;cases hev
 rename_i ty cs' off' hty hev
 cases hev
 obtain ⟨b,o',us,b2,b3,b4,b5,b6⟩:=hyv
 refine ⟨b,b4,b3,?_⟩
 rw [b2]
 split at h
 rotate_left
 ·rename_i hag
  split at h
  rotate_left
  ·cases h
  rename_i t' ht'
  simp only [gBI,gBJ] at h
  obtain ⟨rfl,rfl⟩:=h
  exact ⟨us off,fun W hW=>C3 hty (by simpa using hag) _ _ _ ((World.cell?_of_block (a:=⟨_,_,none⟩) hW).trans (b5 _ _ ht')),Ec (b6 _ _ ht')⟩
 rename_i hag
 simp only [gBI,gBJ] at h
 obtain ⟨rfl,rfl⟩:=h
 refine ⟨_,fun W hW=>Di hty hag b (o'+off) ((List.range ty.size).map fun j=>us (off+j)) (by simp) (fun j u hj=>?_),(List.range ty.size).map fun j=>us (off+j),rfl,by simp;omega,fun i c hi=>?_⟩
 rotate_left
 ·simp only [gAC,gAF,gAA] at hi ⊢
  split at hi
  rotate_left
  ·cases hi
  rename_i hlt
  simp only [gBG] at hi
  obtain ⟨t',ht',rfl⟩:=hi
  exact ⟨us (off+i),by simp [hlt],Ec (b6 _ _ ht')⟩
 simp only [gAC,gBG] at hj
 obtain ⟨j',h1,rfl⟩:=hj
 have hj':j'=j/\j<ty.size:=by
  obtain ⟨hlt,e⟩:=List.getElem?_eq_some_iff.1 h1
  simp at e hlt
  exact ⟨e.symm,hlt⟩
 obtain ⟨rfl,hlt⟩:=hj'
 obtain ⟨t',ht'⟩:∃ t',cs[off+j']?=some t':=⟨_,gE1 (by omega)⟩
 rw [Nat.add_assoc]
 exact (World.cell?_of_block (a:=⟨_,_,none⟩) hW).trans (b5 _ _ ht')
theorem UE {t:TypeId} {y:Operand} {cs:List Tr} {off:Nat} (hi:ops[i]?=some o) (hx:JO ops o=some (dd,want)) (hd:Vc o st.n=true) (ho:o.op=.load t y) (hy:st.ev y=.a (.c (.q cs off))) (hrows:Ct st.hp σ=true) (hlt:Dy st.pin σ=true)
  (h:∀ K':ST->Prop,(∀ st',EO P ops σ rest done (s :: ss) st' K->K' st')->gv (Iy st dd) want (Ve P o st K') (K' (st.put o.dst (.a (.c (.v undef)))))):EO P ops σ ((i,1,s) :: rest) done ss st K:=by
 intro M0 w0 a w Q cs h1 h2 hR hN
 obtain ⟨g,hpp,hR'⟩:=hR
 rcases FM hx hR' (h (fun st'=>EO P ops σ rest done (s :: ss) st' K) (fun _ h=>h)) with ⟨hw,he⟩ | ⟨hw,he⟩
 rotate_left
 ·refine ⟨o,undef,fun _=>True,hi,.inr ⟨hw,rfl⟩,trivial,he M0 w0 _ w Q _ (fun c hc=>?_) (fun c hc=>?_) ⟨g,by cases o.dst <;> exact hpp,hR'.put (B5 hd) rfl⟩ hN⟩
  rotate_left
  ·rcases gB2.1 hc with rfl | hc
   ·exact .inr trivial
   exact h2 c hc
  rcases gB2.1 hc with rfl | hc
  ·exact ⟨by simp,fun _ _ _ _=>trivial⟩
  exact ⟨by simp [(h1 c hc).1],(h1 c hc).2⟩
 unfold Ve at he
 split at he
 rotate_left
 ·exact he.elim
 rename_i c x hop
 have hop':DX P st.ev st.hp t y=some (c,x):=by rw [ho] at hop;exact hop
 obtain ⟨b,hbl,how,v,e1,e2⟩:=QV (P:=P) (ρ:=a.eval) hR'.ev hy hop' he.1
 have hxb:¬ XB σ M0.g b:=by
  rintro ⟨id',hi',e⟩
  obtain ⟨r',q1,q2⟩:=D6 hrows hi'
  rw [<- (hpp.2.2 id' (Cb hlt hi')).1] at e
  have hl':Lv st.hp g (.ob id'):=.inl ⟨r',q1,fun h0=>by
   rcases hR'.hr.row id' r' q1 with ⟨_,z⟩ | ⟨z,_⟩
   ·exact q2 z
   ·exact z h0⟩
  exact how (.inr ⟨_,hl',e.symm⟩)
 refine ⟨o,v,fun W=>W.heap[b]?=w.heap[b]?,hi,.inl ⟨hw,fun W hW=>?_⟩,rfl,he.2 M0 w0 _ w Q _ (fun c hc=>?_) (fun c hc=>?_) ⟨g,by cases o.dst <;> exact hpp,hR'.put (B5 hd) e2⟩ hN⟩
 rotate_left 2
 ·rcases gB2.1 hc with rfl | hc
  ·exact .inr rfl
  exact h2 c hc
 ·have:=e1 W hW
  unfold execOp
  simp [ho,this]
 rcases gB2.1 hc with rfl | hc
 rotate_left
 ·exact ⟨by simp [(h1 c hc).1],(h1 c hc).2⟩
 refine ⟨by simp,fun W W' hW hf=>?_⟩
 have:b<W.heap.size:=by
  rcases gBx b W.heap.size with h | h
  ·exact h
  simp only at hW
  rw [Array.getElem?_eq_none h,gEd hbl] at hW;cases hW
 exact (hf.block _ this hxb).trans hW
theorem UF (hi:ops[i]?=some o) (hx:JO ops o=some (dd,want)) (hd:Vc o st.n=true)
  (h:∀ K':ST->Prop,(∀ st',EO P ops σ rest done (s :: ss) st' K->K' st')->gv (Iy st dd) want False (K' (st.put o.dst (.a (.c (.v undef)))))):EO P ops σ ((i,1,s) :: rest) done ss st K:=by
 intro M0 w0 a w Q cs h1 h2 hR hN
 obtain ⟨g,hpp,hR'⟩:=hR
 rcases FM hx hR' (h (fun st'=>EO P ops σ rest done (s :: ss) st' K) (fun _ h=>h)) with ⟨hw,he⟩ | ⟨hw,he⟩
 ·exact he.elim
 refine ⟨o,undef,fun _=>True,hi,.inr ⟨hw,rfl⟩,trivial,he M0 w0 _ w Q _ (fun c hc=>?_) (fun c hc=>?_) ⟨g,by cases o.dst <;> exact hpp,hR'.put (B5 hd) rfl⟩ hN⟩
 rotate_left
 ·rcases gB2.1 hc with rfl | hc
  ·exact .inr trivial
  exact h2 c hc
 rcases gB2.1 hc with rfl | hc
 ·exact ⟨by simp,fun _ _ _ _=>trivial⟩
 exact ⟨by simp [(h1 c hc).1],(h1 c hc).2⟩
theorem VH {k:Nat} (hi:ops[i]?=some o) (hg:o.guard=none) (h:∀ K':ST->Prop,(∀ st',EO P ops σ rest (i :: done) ss st' K->K' st')->Mq P o st K' σ):EO P ops σ ((i,k+2,s) :: rest) done ss st K:=by
 intro M0 w0 a w Q cs h1 h2 hR hN
 show wpOp P ops Q i _ a w
 unfold wpOp
 rw [hi]
 simp only [Region.wanted,hg,if_true]
 refine .inl (h (fun st'=>EO P ops σ rest (i :: done) ss st' K) (fun _ h=>h) M0 w0 a w _ Q hR fun st' a' w' q1 q2 q3=>?_)
 have h2':∀ c∈cs,c.1∈i :: done\/c.2 w':=fun c hc=>(h2 c hc).imp (fun h=>gEf _ h) (fun h=>(h1 c hc).2 w w' h q3)
 exact ⟨h2',q1 M0 w0 a' w' Q cs h1 h2' q2 hN⟩
theorem VI {k:Nat} (hi:ops[i]?=some o) (hg:o.guard=none) (hss:FN ss (i :: done)=true) (h:∀ K':ST->Prop,(∀ st',EO P ops σ rest (i :: done) ss st' K->K' st')->Stp P o st K'):EO P ops σ ((i,k+2,s) :: rest) done ss st K:=by
 intro M0 w0 a w Q cs h1 h2 hR hN
 show wpOp P ops Q i _ a w
 unfold wpOp
 rw [hi]
 simp only [Region.wanted,hg,if_true]
 refine .inl (h (fun st'=>EO P ops σ rest (i :: done) ss st' K) (fun _ h=>h) M0 w0 a w _ Q hR fun st' a' w' q1 q2=>?_)
 have h2':∀ c∈cs,c.1∈i :: done\/c.2 w':=fun c hc=>.inl (DM hss (h1 c hc).1)
 exact ⟨h2',q1 M0 w0 a' w' Q cs h1 h2' q2 hN⟩
theorem Mr {k j d:Nat} (hi:ops[i]?=some o) (hg:o.guard=some (j,want)) (hj:(ops[j]?).bind (·.dst)=some d) (ht:st.get d=.b want) (h:∀ K':ST->Prop,(∀ st',EO P ops σ rest (i :: done) ss st' K->K' st')->Mq P o st K' σ):EO P ops σ ((i,k+2,s) :: rest) done ss st K:=by
 intro M0 w0 a w Q cs h1 h2 hR hN
 obtain ⟨g,hpp,hR'⟩:=hR
 show wpOp P ops Q i _ a w
 unfold wpOp
 rw [hi]
 simp only [Gu hg hj ht hR',if_true]
 refine .inl (h (fun st'=>EO P ops σ rest (i :: done) ss st' K) (fun _ h=>h) M0 w0 a w _ Q ⟨g,hpp,hR'⟩ fun st' a' w' q1 q2 q3=>?_)
 have h2':∀ c∈cs,c.1∈i :: done\/c.2 w':=fun c hc=>(h2 c hc).imp (fun h=>gEf _ h) (fun h=>(h1 c hc).2 w w' h q3)
 exact ⟨h2',q1 M0 w0 a' w' Q cs h1 h2' q2 hN⟩
theorem UG {k j d:Nat} (hi:ops[i]?=some o) (hg:o.guard=some (j,want)) (hj:(ops[j]?).bind (·.dst)=some d) (hd:Vc o st.n=true) (h:∀ K':ST->Prop,(∀ st',EO P ops σ rest (i :: done) ss st' K->K' st')->gv (st.get d) want False (K' (st.put o.dst (.a (.c (.v undef)))))):EO P ops σ ((i,k+2,s) :: rest) done ss st K:=by
 intro M0 w0 a w Q cs h1 h2 hR hN
 obtain ⟨g,hpp,hR'⟩:=hR
 rcases BW (h (fun st'=>EO P ops σ rest (i :: done) ss st' K) (fun _ h=>h)) with ⟨_,q2⟩ | ⟨v,q1,q2,q3⟩
 ·exact q2.elim
 show wpOp P ops Q i _ a w
 unfold wpOp
 rw [hi]
 simp only [Gv hg hj q1 q2 hR',gA5,if_false]
 have h2':∀ c∈cs,c.1∈i :: done\/c.2 w:=fun c hc=>(h2 c hc).imp (fun h=>gEf _ h) id
 exact ⟨h2',q3 M0 w0 _ w Q cs h1 h2' ⟨g,by cases o.dst <;> exact hpp,hR'.put (B5 hd) rfl⟩ hN⟩
theorem UT {t:ST} (h:Le st t) (k:EO P ops σ rest done ss t K):EO P ops σ rest done ss st K:=fun M0 w0 a w Q cs h1 h2 hR hN=>k M0 w0 a w Q cs h1 h2 (h M0 w0 a w hR) hN
theorem Bv {P:Program} {o:Oper} {st:ST} {K:ST->Prop} {σ:List Nat} (h:Mq P o st K []):Mq P o st K σ:=
 fun M0 w0 a w N Q hR hN=>h M0 w0 a w N Q hR fun st' a' w' h1 h2 h3=>hN st' a' w' h1 h2 (h3.mono fun _ _ ⟨_,h,_⟩=>by simp at h)
theorem BN {ob:Ob} (h:ob.born=true):∀ (i:Nat) (o:Ob),[ob][i]?=some o->i < [0].length->o.born=true:=by
 intro i o hi hl
 cases i with
 | zero=>simp at hi;subst hi;exact h
 | succ i=>simp at hl
theorem C5 {Q:Exit->ST->Prop} {id:Nat} {l:List Oper} (σ:List Nat) (p:List (Nat × Nat × Nat)) (hm:P.follows .mixedOrders=true) (hs:(Region.noSelect l.toArray && (OH l.toArray p [] (Array.replicate l.toArray.size false) && p.length.beq l.toArray.size))=true)
  (hQ:∀ c st,¬ Q (.panic c) st) (h:EO P l.toArray σ p [] [] { st with pin:=st.hp.length } (fun s=>st.pin<=s.pin/\s.pin<=s.hp.length/\Q .normal { s with pin:=st.pin })):AW P (.region id l.toArray true) st Q:=by
 intro M0 w0 a w hR
 simp only [U7,gA1,gBM] at hs
 refine wp_region_any hm ?_
 obtain ⟨g,hpp,hR'⟩:=hR.drew
 have hR2:Rel ⟨M0.P,g⟩ w0 { st with pin:=st.hp.length } a w.drew:=⟨g,⟨gBu _,Ext.refl _ _⟩,⟨hR'.hr,hR'.new,hR'.tm,hR'.n,hR'.df,hR'.fp⟩⟩
 have key:wpAny P .any l.toArray (fun e a' w'=>∃ st',Rel M0 w0 st' a' w'/\Q e st') p.length (Array.replicate l.toArray.size false) a w.drew:=GS _ _ _ _ (Eo (cs:=[]) hs.1 (fun c a d v w ⟨st',_,h⟩=>(hQ c st' h).elim) p [] _ a _ ?_ hs.2.1 (by simp) (by intro c hc;simp at hc) (h ⟨M0.P,g⟩ w0 a w.drew _ [] (by simp) (by simp) hR2 fun st' a' w' ⟨k1,k2,h1⟩ h2=>?_))
 ·rw [hs.2.2] at key
  exact key
 ·intro j o hj hlist
  exfalso
  simp [Array.getElem?_replicate] at hlist
  split at hlist <;> simp at hlist
 obtain ⟨g2,hpp2,hR3⟩:=h2
 exact ⟨{ st' with pin:=st.pin },⟨g2,⟨gBv k1 k2,hpp.2.trans (hpp2.2.le k1)⟩,⟨hR3.hr,hR3.new,hR3.tm,hR3.n,hR3.df,hR3.fp⟩⟩,h1⟩
end
end Go.Proofs.YtbnabodoabimnaaGreat
