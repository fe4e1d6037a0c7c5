/- Lemmas. -/
import Derived.Test.YtbnabodoabimnaaGreatMC
namespace Go.Proofs.YtbnabodoabimnaaGreat
set_option linter.unusedVariables false
set_option linter.unusedSimpArgs false
open Go.RowKit
def idx:List Nat->Nat->Nat->Option Nat
 | [],_,_=>none
 | x :: r,id,i=>if x=id then some i else idx r id (i+1)
def Dn (ρ:List Nat):List Nat->Option (List Nat)
 | []=>some []
 | id :: r=>match idx ρ id 0,Dn ρ r with
  | some i,some l=>some (i :: l)
  | _,_=>none
def C.ren (ρ:List Nat):C->C
 | .s id n=>match idx ρ id 0 with | some i=>.s i n | none=>.u
 | .p id off=>match idx ρ id 0 with | some i=>.p i off | none=>.u
 | .b id j n=>match idx ρ id 0 with | some i=>.b i j n | none=>.u
 | .m id=>match idx ρ id 0 with | some i=>.m i | none=>.u
 | .w id off n k=>match idx ρ id 0 with | some i=>.w i off n k | none=>.u
 | .f fn ids=>match Dn ρ ids with | some l=>.f fn l | none=>.u
 | .it mid since seen last=>.it (mid.bind fun id=>idx ρ id 0) since seen last
 | c=>c
def A0.ren (ρ:List Nat):A0->A0
 | .c x=>.c (x.ren ρ)
 | .g xs=>.g (xs.map (C.ren ρ))
def AV.ren (ρ:List Nat):AV->AV
 | .a x=>.a (x.ren ρ)
 | .tup xs=>.tup (xs.map (A0.ren ρ))
def Ob.ren (ρ:List Nat):Ob->Ob
 | .x=>.x
 | .d=>.d
 | .r q=>.r { q with cells:=q.cells.map (C.ren ρ) }
 | .m kv=>.m (kv.map fun p=>(p.1,p.2.ren ρ))
def ST.pick (s:ST) (ρ:List Nat):ST:={ s with tm:=s.tm.map fun p=>(p.1,p.2.ren ρ),hp:=ρ.map fun id=>(s.hp.getD id .d).ren ρ }
def B1:List Nat->Bool
 | []=>true
 | x :: r=>!r.contains x && B1 r
theorem Te {ρ:List Nat} {id i j:Nat} (h:idx ρ id j=some i):j<=i/\ρ[i - j]?=some id:=by
 induction ρ generalizing j with
 | nil=>cases h
 | cons x r ih=>
  unfold idx at h
  split at h
  ·rename_i e;cases h;subst e;simp
  obtain ⟨h1,h2⟩:=ih h
  refine ⟨by omega,?_⟩
  rw [show i - j=(i - (j+1))+1 from by omega]
  simpa using h2
theorem BA {ρ:List Nat} {id i:Nat} (h:idx ρ id 0=some i):ρ[i]?=some id:=by simpa using (Te h).2
theorem Dw {ρ:List Nat} (h:B1 ρ=true) {i j id:Nat} (hi:ρ[i]?=some id) (hj:ρ[j]?=some id):i=j:=by
 induction ρ generalizing i j with
 | nil=>simp at hi
 | cons x r ih=>
  simp only [B1,gA1,gA7] at h
  obtain ⟨h1,h2⟩:=h
  have h1':x ∉ r:=by simpa using h1
  cases i with
  | zero=>
   cases j with
   | zero=>rfl
   | succ j=>simp at hi hj;subst hi;exact absurd (gE9 hj) h1'
  | succ i=>
   cases j with
   | zero=>simp at hi hj;subst hj;exact absurd (gE9 hi) h1'
   | succ j=>simp at hi hj;rw [ih h2 hi hj]
def Mf:Nat->List Nat->Bool
 | 0,_=>true
 | n+1,ρ=>ρ[n]? == some n && Mf n ρ
def Gh.pk (g:Gh) (ρ:List Nat) (M:Nat->Prop):Gh:=⟨fun ℓ=>match ℓ with | .ob i=>g.γ (.ob (ρ.getD i 0)) | .cl i j=>g.γ (.cl (ρ.getD i 0) j),fun i=>g.κ (ρ.getD i 0),M⟩
def Vk (hp:List Ob) (ρ:List Nat):List Ob:=ρ.map fun id=>(hp.getD id .d).ren ρ
theorem AO {ρ:List Nat} {i id:Nat} (h:ρ[i]?=some id):ρ.getD i 0=id:=by rw [List.getD,h];rfl
theorem QN {ρ:List Nat} {c:C} {k:Nat × Nat} {cs:List Tr} (h:c.ren ρ=.o k cs):c=.o k cs:=by
 cases c <;> simp only [C.ren] at h <;> first | exact h | (cases h;done) | (split at h <;> cases h)
section
variable {g : Gh} {hp : List Ob} {w : World} {ρ : List Nat} {M : Nat -> Prop}
theorem Q5 {i:Nat} {o:Ob} (h:(Vk hp ρ)[i]?=some o):∃ id,ρ[i]?=some id/\o=(hp.getD id .d).ren ρ:=by
 unfold Vk at h
 rw [gAC,gBG] at h
 obtain ⟨id,h1,h2⟩:=h
 exact ⟨id,h1,h2.symm⟩
theorem JL {i:Nat} {r':Row} (h:(Vk hp ρ)[i]?=some (.r r')):∃ id r,ρ[i]?=some id/\hp[id]?=some (.r r)/\r'={ r with cells:=r.cells.map (C.ren ρ) }:=by
 obtain ⟨id,h1,h2⟩:=Q5 h
 cases ho:hp[id]? with
 | none=>rw [List.getD,ho] at h2;cases h2
 | some o=>
  rw [List.getD,ho] at h2
  simp only [gBF] at h2
  cases o <;> simp only [Ob.ren] at h2 <;> first | (cases h2;done) | (cases h2;exact ⟨id,_,h1,ho,rfl⟩)
theorem Q6 {i:Nat} {kv':List (Value × C)} (h:(Vk hp ρ)[i]?=some (.m kv')):∃ id kv,ρ[i]?=some id/\hp[id]?=some (.m kv)/\kv'=kv.map fun p=>(p.1,p.2.ren ρ):=by
 obtain ⟨id,h1,h2⟩:=Q5 h
 cases ho:hp[id]? with
 | none=>rw [List.getD,ho] at h2;cases h2
 | some o=>
  rw [List.getD,ho] at h2
  simp only [gBF] at h2
  cases o <;> simp only [Ob.ren] at h2 <;> first | (cases h2;done) | (cases h2;exact ⟨id,_,h1,ho,rfl⟩)
theorem IP {i id:Nat} (hi:ρ[i]?=some id) (hb:Bn hp id):Bn (Vk hp ρ) i:=by
 obtain ⟨o,h1,h2⟩:=hb
 refine ⟨o.ren ρ,?_,by cases o <;> first | rfl | cases h2⟩
 unfold Vk
 rw [gAC,hi]
 simp [List.getD,h1]
def τ (ρ:List Nat):Loc->Loc
 | .ob i=>.ob (ρ.getD i 0)
 | .cl i j=>.cl (ρ.getD i 0) j
theorem Cj (ℓ:Loc):(g.pk ρ M).γ ℓ=g.γ (τ ρ ℓ):=by cases ℓ <;> rfl
theorem Dx {ℓ:Loc} (h:Lv (Vk hp ρ) (g.pk ρ M) ℓ):Lv hp g (τ ρ ℓ)/\∃ id,(match ℓ with | .ob i=>ρ[i]? | .cl i _=>ρ[i]?)=some id:=by
 cases ℓ with
 | ob i=>
  rcases h with ⟨r',e1,e2⟩ | ⟨kv,e1⟩
  rotate_left
  ·obtain ⟨id,kv',h1,h2,h3⟩:=Q6 e1
   exact ⟨.inr ⟨kv',by rw [AO h1];exact h2⟩,id,h1⟩
  obtain ⟨id,r,h1,h2,h3⟩:=JL e1
  refine ⟨.inl ⟨r,?_,?_⟩,id,h1⟩
  ·rw [AO h1];exact h2
  exact e2
 | cl i j=>
  obtain ⟨r',k,cs,e1,e2,e3⟩:=h
  obtain ⟨id,r,h1,h2,h3⟩:=JL e1
  subst h3
  rw [gAC,gBG] at e2
  obtain ⟨c,c1,c2⟩:=e2
  have:=QN c2
  subst this
  exact ⟨⟨r,k,cs,by rw [AO h1];exact h2,c1,e3⟩,id,h1⟩
theorem Mg {b:Nat} (hM:∀ b,M b->Ow hp g b) (h:Ow (Vk hp ρ) (g.pk ρ M) b):Ow hp g b:=h.elim (hM b) (fun ⟨ℓ,hl,e⟩=>Or.inr ⟨τ ρ ℓ,(Dx hl).1,by rw [<- Cj (M:=M)];exact e⟩)
theorem Mh {ids l:List Nat} (h:Dn ρ ids=some l) (hb:∀ id∈ids,Bn hp id):(∀ i∈l,Bn (Vk hp ρ) i)/\l.map (fun i=>Value.pointer (some ⟨(g.pk ρ M).γ (.ob i),0,none⟩))=ids.map fun id=>Value.pointer (some ⟨g.γ (.ob id),0,none⟩):=by
 induction ids generalizing l with
 | nil=>simp [Dn] at h;subst h;simp
 | cons id r ih=>
  unfold Dn at h
  split at h
  rotate_left
  ·cases h
  rename_i i l' h1 h2
  cases h
  obtain ⟨i1,i2⟩:=ih h2 (fun id hid=>hb id (gEf _ hid))
  have hg:=BA h1
  refine ⟨fun q hq=>?_,?_⟩
  rotate_left
  ·simp only [gAV,i2]
   rw [Cj]
   simp only [τ,AO hg]
  rcases gB2.1 hq with rfl | hq
  ·exact IP hg (hb id (by simp))
  exact i1 q hq
theorem CR.ren (hM:∀ b,M b->Ow hp g b) {c:C} {y:Value} (h:CR g hp w c y):CR (g.pk ρ M) (Vk hp ρ) w (c.ren ρ) y:=by
 cases c with
 | u=>trivial
 | v x=>exact h
 | t k cs=>exact (show Rd _ _ _ _ from h).mono (fun _ _ h=>Mg hM h)
 | s id n=>
  simp only [C.ren]
  split
  rotate_left
  ·trivial
  rename_i i hi
  obtain ⟨h1,h2,A,h3,h4,h5⟩:=h
  have hg:=BA hi
  refine ⟨IP hg h1,?_,A,?_,?_,h5⟩
  ·show n<=g.κ (ρ.getD i 0);rw [AO hg];exact h2
  ·show y=.slice A n (g.κ (ρ.getD i 0));rw [AO hg];exact h3
  show g.κ (ρ.getD i 0) ≠ 0->A=some ⟨g.γ (.ob (ρ.getD i 0)),0,none⟩;rw [AO hg];exact h4
 | p id off=>
  simp only [C.ren]
  split
  rotate_left
  ·trivial
  rename_i i hi
  obtain ⟨h1,h2⟩:=h
  have hg:=BA hi
  exact ⟨IP hg h1,by show y=.pointer (some ⟨g.γ (.ob (ρ.getD i 0)),off,none⟩);rw [AO hg];exact h2⟩
 | q cs off=>
  obtain ⟨b,o,us,h1,h2,h3,h4,h5⟩:=h
  exact ⟨b,o,us,h1,fun ho=>h2 (Mg hM ho),h3,h4,fun j t hj=>(h5 j t hj).mono (fun _ _ h=>Mg hM h)⟩
 | o k cs=>exact h
 | b id j n=>
  simp only [C.ren]
  split
  rotate_left
  ·trivial
  rename_i i hi
  obtain ⟨h1,h2⟩:=h
  have hg:=BA hi
  refine ⟨IP hg h1,fun r' k cs e1 e2=>?_⟩
  obtain ⟨id',r,q1,q2,q3⟩:=JL e1
  rw [hg] at q1;cases q1
  subst q3
  simp only [gAC,gBG] at e2
  obtain ⟨c,c1,c2⟩:=e2
  have:=QN c2
  subst this
  rw [Cj]
  simp only [τ,AO hg]
  exact h2 r k cs q2 c1
 | m id=>
  simp only [C.ren]
  split
  rotate_left
  ·trivial
  rename_i i hi
  obtain ⟨h1,h2⟩:=h
  have hg:=BA hi
  exact ⟨IP hg h1,by show y=.map (some (g.γ (.ob (ρ.getD i 0))));rw [AO hg];exact h2⟩
 | w id off n k=>
  simp only [C.ren]
  split
  rotate_left
  ·trivial
  rename_i i hi
  obtain ⟨h1,h2,h3,h4⟩:=h
  have hg:=BA hi
  refine ⟨IP hg h1,?_,?_,?_⟩
  ·show off<g.κ (ρ.getD i 0);rw [AO hg];exact h2
  ·show off+n<=g.κ (ρ.getD i 0);rw [AO hg];exact h3
  show y=.slice (some ⟨g.γ (.ob (ρ.getD i 0)),off*k,none⟩) n (g.κ (ρ.getD i 0) - off);rw [AO hg];exact h4
 | f fn ids=>
  simp only [C.ren]
  split
  rotate_left
  ·trivial
  rename_i l hl
  obtain ⟨h1,h2⟩:=h
  obtain ⟨i1,i2⟩:=Mh (g:=g) hl h1
  exact ⟨i1,by rw [h2];unfold V2;rw [i2]⟩
 | it _ _ _ _=>exact h.elim
theorem CellR.ren (hM:∀ b,M b->Ow hp g b) {i id j:Nat} (hi:ρ[i]?=some id) {c:C} {y:Value} (h:CellR g hp w id j c y):CellR (g.pk ρ M) (Vk hp ρ) w i j (c.ren ρ) y:=by
 cases c with
 | o k cs=>
  rcases h with h1 | ⟨h1,n,c,arr,h2,h3,h4,h5,h6,h7,h8⟩
  ·exact .inl h1
  have e:(g.pk ρ M).γ (.cl i j)=g.γ (.cl id j):=by rw [Cj];simp only [τ,AO hi]
  exact .inr ⟨h1,n,c,arr,by rw [e];exact h2,h3,h4,h5,by rw [e];exact h6,h7,fun q t hq=>by obtain ⟨u,u1,u2⟩:=h8 q t hq;exact ⟨u,u1,u2.mono (fun _ _ h=>Mg hM h)⟩⟩
 | b id' j' n=>exact h.elim
 | u=>trivial
 | v x=>exact CR.ren (M:=M) hM (g:=g) (hp:=hp) (w:=w) (ρ:=ρ) (c:=.v x) h
 | t k cs=>exact CR.ren (M:=M) hM (g:=g) (hp:=hp) (w:=w) (ρ:=ρ) (c:=.t k cs) h
 | s id n=>have:=CR.ren (M:=M) hM (g:=g) (hp:=hp) (w:=w) (ρ:=ρ) (c:=.s id n) h;simp only [C.ren] at this ⊢;split at this <;> exact this
 | p id off=>have:=CR.ren (M:=M) hM (g:=g) (hp:=hp) (w:=w) (ρ:=ρ) (c:=.p id off) h;simp only [C.ren] at this ⊢;split at this <;> exact this
 | q cs off=>exact CR.ren (M:=M) hM (g:=g) (hp:=hp) (w:=w) (ρ:=ρ) (c:=.q cs off) h
 | m id=>have:=CR.ren (M:=M) hM (g:=g) (hp:=hp) (w:=w) (ρ:=ρ) (c:=.m id) h;simp only [C.ren] at this ⊢;split at this <;> exact this
 | w id off n k=>have:=CR.ren (M:=M) hM (g:=g) (hp:=hp) (w:=w) (ρ:=ρ) (c:=.w id off n k) h;simp only [C.ren] at this ⊢;split at this <;> exact this
 | f fn ids=>have:=CR.ren (M:=M) hM (g:=g) (hp:=hp) (w:=w) (ρ:=ρ) (c:=.f fn ids) h;simp only [C.ren] at this ⊢;split at this <;> exact this
 | it _ _ _ _=>exact h.elim
theorem HR.pk (hr:HR g hp w) (hM:∀ b,M b->Ow hp g b) (hml:∀ b,M b->b<w.heap.size) (hmd:∀ ℓ,Lv (Vk hp ρ) (g.pk ρ M) ℓ->¬ M ((g.pk ρ M).γ ℓ)) (hd:B1 ρ=true):HR (g.pk ρ M) (Vk hp ρ) w:=by
 refine ⟨hml,hmd,fun ℓ ℓ' hl hl' e=>?_,fun i r' e1=>?_,fun i kv' e1=>?_,hr.gl.keep (gBu _) (fun _ _ _=>rfl) (fun _ _ h=>Mg hM h)⟩
 ·rw [Cj,Cj] at e
  obtain ⟨l1,id1,d1⟩:=Dx hl
  obtain ⟨l2,id2,d2⟩:=Dx hl'
  have:=hr.inj _ _ l1 l2 e
  cases ℓ with
  | ob i=>
   cases ℓ' with
   | ob i'=>
    simp only at d1 d2
    simp only [τ,AO d1,AO d2] at this
    cases this
    rw [Dw hd d1 d2]
   | cl i' j'=>simp [τ] at this
  | cl i j=>
   cases ℓ' with
   | ob i'=>simp [τ] at this
   | cl i' j'=>
    simp only at d1 d2
    simp only [τ,AO d1,AO d2] at this
    cases this
    rw [Dw hd d1 d2]
 ·obtain ⟨id,r,h1,h2,rfl⟩:=JL e1
  have ek:(g.pk ρ M).κ i=g.κ id:=by show g.κ (ρ.getD i 0)=_;rw [AO h1]
  have eg:(g.pk ρ M).γ (.ob i)=g.γ (.ob id):=by rw [Cj];simp only [τ,AO h1]
  rcases hr.row id r h2 with ⟨k1,k2⟩ | ⟨k1,k2,arr,k3,k4,k5,k6,k7⟩
  ·exact .inl ⟨by rw [ek];exact k1,by simp [k2]⟩
  refine .inr ⟨by rw [ek];exact k1,fun hs hn=>k2 hs (by simpa using hn),arr,by rw [eg];exact k3,by simpa using k4,by rw [ek];exact k5,by rw [ek];exact k6,fun j x hj=>?_⟩
  simp only [gAC,gBG] at hj
  obtain ⟨c,c1,rfl⟩:=hj
  obtain ⟨u,u1,u2⟩:=k7 j c c1
  exact ⟨u,u1,CellR.ren hM h1 u2⟩
 obtain ⟨id,kv,h1,h2,rfl⟩:=Q6 e1
 have eg:(g.pk ρ M).γ (.ob i)=g.γ (.ob id):=by rw [Cj];simp only [τ,AO h1]
 rcases hr.mp id kv h2 with ⟨mid,since,seen,last,rfl,m0,k1,k2⟩ | ⟨es,clock,k1,k2,k3,k4⟩
 ·refine .inl ⟨mid.bind fun id=>idx ρ id 0,since,seen,last,rfl,m0,by rw [eg];exact k1,fun m hm=>?_⟩
  cases mid with
  | none=>cases hm
  | some mm=>
   obtain ⟨q1,q2⟩:=k2 mm rfl
   have hg:=BA (show idx ρ mm 0=some m from hm)
   exact ⟨IP hg q1,by show m0=g.γ (.ob (ρ.getD m 0));rw [AO hg];exact q2⟩
 refine .inr ⟨es,clock,by rw [eg];exact k1,by simpa using k2,fun q p hq=>?_,k4⟩
 rw [gAC,gBG] at hq
 obtain ⟨p',p1,rfl⟩:=hq
 obtain ⟨⟨e,f1,f2,f3⟩,f4⟩:=k3 q p' p1
 exact ⟨⟨e,f1,f2,by have:=CellR.ren hM (j:=0) h1 (show CellR g hp w id 0 p'.2 e.val from f3);exact this⟩,fun k cs e=>f4 k cs (QN e)⟩
theorem A0R.ren (hM:∀ b,M b->Ow hp g b) {x:A0} {y:Value} (h:A0R (CR g hp w) x y):A0R (CR (g.pk ρ M) (Vk hp ρ) w) (x.ren ρ) y:=by
 cases x with
 | c x=>exact CR.ren hM h
 | g xs=>obtain ⟨us,h1,h2⟩:=h;exact ⟨us,h1,h2.map (fun _ _ h=>CR.ren hM h)⟩
theorem AVR.ren (hM:∀ b,M b->Ow hp g b) {x:AV} {y:Value} (h:AVR (CR g hp w) x y):AVR (CR (g.pk ρ M) (Vk hp ρ) w) (x.ren ρ) y:=by
 cases x with
 | a x=>exact A0R.ren hM h
 | tup xs=>
  obtain ⟨us,h1,h2,h3⟩:=h
  refine ⟨us,h1,by simp [h2],fun i x hx=>?_⟩
  rw [gAC,gBG] at hx
  obtain ⟨c,hc,rfl⟩:=hx
  obtain ⟨u,e1,e2⟩:=h3 i c hc
  exact ⟨u,e1,A0R.ren hM e2⟩
end
theorem HP {n:Nat} {ρ:List Nat} (h:Mf n ρ=true) {i:Nat} (hi:i<n):ρ[i]?=some i:=by
 induction n with
 | zero=>omega
 | succ n ih=>
  simp only [Mf,gA1,beq_iff_eq] at h
  by_cases e:i=n
  ·subst e;exact h.1
  exact ih h.2 (by omega)
theorem A8 {s:ST} (ρ:List Nat) (hd:B1 ρ=true) (hf:Mf s.pin ρ=true):Le s (s.pick ρ):=by
 rintro M0 w0 a w ⟨g,hpp,hR⟩
 have hM:∀ b,g.M b->Ow s.hp g b:=fun b hb=>.inl hb
 have hlen:s.pin<=ρ.length:=by
  rcases gBs s.pin with h | h
  ·omega
  have:=(List.getElem?_eq_some_iff.1 (HP hf (i:=s.pin - 1) (by omega))).1
  omega
 refine ⟨g.pk ρ g.M,⟨by simpa [ST.pick] using hlen,hpp.2.trans ⟨rfl,fun i hi=>?_⟩⟩,hR.hr.pk hM hR.hr.ml (fun ℓ hl=>by rw [Cj];exact hR.hr.md _ (Dx hl).1) hd,fun ℓ hl=>by rw [Cj];exact hR.new _ (Dx hl).1,fun d=>?_,hR.n,hR.df,hR.fp⟩
 rotate_left
 ·have e:(s.pick ρ).get d=(s.get d).ren ρ:=Em _ rfl s.tm d
  rw [e]
  exact AVR.ren hM (hR.tm d)
 have:=AO (HP hf hi)
 exact ⟨by rw [Cj];simp only [τ,this],by show g.κ (ρ.getD i 0)=_;rw [this]⟩
end Go.Proofs.YtbnabodoabimnaaGreat
namespace Go.Proofs.YtbnabodoabimnaaGreat
set_option linter.unusedVariables false
set_option linter.unusedSimpArgs false
open Go.RowKit
def HQ (g:Gh) (hp:List Ob) (w:World) (args:List AV) (vals:List Value):Prop:=vals.length=args.length/\∀ (i:Nat) (x:AV),args[i]?=some x->∃ v,vals[i]?=some v/\AVR (CR g hp w) x v
def Gg (hp:List Ob) (g:Gh) (b:Nat):Prop:=∃ ℓ,Lv hp g ℓ/\g.γ ℓ=b
def OC (g:Gh) (ins:List Ob) (w:World) (R:AV->List Ob->Prop) (e:Ending) (w':World):Prop:=
 ∃ v r outs g',e=.returned v/\R r outs/\HR g' outs w'/\(ins.length<=outs.length/\Ext ins.length g g')/\(∀ ℓ,Lv outs g' ℓ->Gg ins g (g'.γ ℓ)\/w.heap.size<=g'.γ ℓ)/\AVR (CR g' outs w') r v/\Fp (Gg ins g) w w'
def FC (P:Program) (f:FuncId) (args:List AV) (ins:List Ob) (R:AV->List Ob->Prop):Prop:=
 ∀ (g:Gh) (w:World) (vals:List Value),HR g ins w->HQ g ins w args vals->Calls P f vals.toArray w (OC g ins w R)
theorem FC.mono {P:Program} {f:FuncId} {args:List AV} {ins:List Ob} {R R':AV->List Ob->Prop} (h:FC P f args ins R) (hr:∀ r o,R r o->R' r o):FC P f args ins R':=
 fun g w vals h1 h2=>(h g w vals h1 h2).mono fun e w' ⟨v,r,outs,g',q1,q2,q3⟩=>⟨v,r,outs,g',q1,hr _ _ q2,q3⟩

/-! the frame at the beginning, the results at the end -/
def B4:Nat->List AV->List (Nat × AV)
 | _,[]=>[]
 | i,x :: r=>(i,x) :: B4 (i+1) r
theorem Mi (args:List AV) (i d:Nat):Ek (B4 i args) d=if i<=d then (args[d - i]?).getD .u else .u:=by
 induction args generalizing i with
 | nil=>simp [B4,Ek]
 | cons x r ih=>
  simp only [B4,Ek]
  by_cases h:d=i
  ·subst h;simp
  rw [if_neg h,ih (i+1)]
  by_cases h2:i<=d
  ·rw [if_pos h2,if_pos (by omega),show d - i=(d - (i+1))+1 from by omega];simp
  rw [if_neg h2,if_neg (by omega)]
def Cx (P:Program) (st:ST):ResultVar->Option (Prop × A0)
 | .tmp t=>match st.get t with
  | .a x=>some (True,x)
  | _=>none
 | .cell a t=>match DX P st.ev st.hp t (.tmp a) with
  | some (c,.a x)=>some (c,x)
  | _=>none
def Ck (P:Program) (st:ST):List ResultVar->Option (Prop × List A0)
 | []=>some (True,[])
 | v :: r=>match Cx P st v,Ck P st r with
  | some (c,x),some (d,xs)=>some (c/\d,x :: xs)
  | _,_=>none
def Cq (P:Program) (st:ST) (rs:List ResultVar):Option (Prop × AV):=
 match Ck P st rs with
 | some (c,[x])=>some (c,.a x)
 | some (c,xs)=>some (c,.tup xs)
 | none=>none
def Vl (P:Program) (rs:List ResultVar) (n:Nat) (R:AV->List Ob->Prop) (e:Exit) (st:ST):Prop:=
 (e=.ret\/e=.normal)/\∃ st' c r,Le st st'/\st'.pin=n/\Cq P st' rs=some (c,r)/\c/\R r st'.hp
theorem Mj {P:Program} {g:Gh} {hp:List Ob} {w:World} {ρ:Operand->Value} {ev:Operand->AV} (hR:∀ x,AVR (CR g hp w) (ev x) (ρ x)) {t:TypeId} {y:Operand} {c:Prop} {x:AV} (h:DX P ev hp t y=some (c,x)):∃ a,ρ y=.pointer (some a):=by
 have hy:=hR y
 unfold DX at h
 split at h
 ·rename_i hev;rw [hev] at hy;exact ⟨_,hy.2⟩
 ·rename_i hev;rw [hev] at hy;obtain ⟨b,o,us,e,_⟩:=hy;exact ⟨_,e⟩
 cases h
def QO (tmps:Array Value):ResultVar->Sem Value
 | .tmp t=>pure (tmps.getD t undef)
 | .cell b t=>do loadVar t (<- asAddr (tmps.getD b undef))
theorem Lg (fn:Func) (tmps:Array Value):results fn tmps=(fn.results.mapM (QO tmps) >>= fun vs=>pure (if h:vs.size=1 then vs[0] else .tuple vs)):=by
 unfold results
 have e:(fun r:ResultVar=>(match r with | .tmp t=>pure (tmps.getD t undef) | .cell a t=>do loadVar t (<- asAddr (tmps.getD a undef)):Sem Value))=QO tmps:=by
  funext r
  cases r <;> rfl
 rw [<- e]
 rfl
theorem FJ {P:Program} {g:Gh} {M0:Nat->Prop} {w0 w:World} {st:ST} {a:Act} (h:RelG g M0 w0 st a w):∀ {rs:List ResultVar} {c:Prop} {xs:List A0},Ck P st rs=some (c,xs)->c->
  ∃ vs:List Value,(rs.mapM (QO a.tmps)).run P w=.ok vs w/\vs.length=xs.length/\∀ (i:Nat) (x:A0),xs[i]?=some x->∃ u,vs[i]?=some u/\A0R (CR g st.hp w) x u
 | [],c,xs,hr,hc=>by
  simp [Ck] at hr
  obtain ⟨_,rfl⟩:=hr
  exact ⟨[],by simp,rfl,fun i x hx=>by simp at hx⟩
 | r :: rs,c,xs,hr,hc=>by
  unfold Ck at hr
  split at hr
  ·rename_i c1 x1 c2 xs2 h1 h2
   simp only [gBI,gBJ] at hr
   obtain ⟨rfl,rfl⟩:=hr
   obtain ⟨vs,i1,i2,i3⟩:=FJ h h2 hc.2
   have one:∃ v,(QO a.tmps r).run P w=.ok v w/\A0R (CR g st.hp w) x1 v:=by
    unfold Cx at h1
    split at h1
    ·rename_i t
     split at h1
     ·rename_i x hx
      simp only [gBI,gBJ] at h1
      obtain ⟨_,rfl⟩:=h1
      have:=h.tm t
      rw [hx] at this
      exact ⟨_,by simp [QO],this⟩
     ·cases h1
    ·rename_i b t
     split at h1
     ·rename_i c' x hl
      simp only [gBI,gBJ] at h1
      obtain ⟨rfl,rfl⟩:=h1
      obtain ⟨v,r1,r2⟩:=FG (P:=P) h.hr h.ev hl hc.1
      obtain ⟨ad,ha⟩:=Mj h.ev hl
      refine ⟨v,?_,r2⟩
      have ha':a.tmps.getD b undef=.pointer (some ad):=ha
      have r1:=r1 w (Fp.refl _ _)
      rw [ha] at r1
      simp only [Instr.loadAt,Instr.sureAddr,Sem.run_bind,Sem.run_pure,Result.andThen_ok] at r1
      simp only [QO,ha',asAddr,Sem.run_bind,Sem.run_pure,Result.andThen_ok]
      exact r1
     ·cases h1
   obtain ⟨v,v1,v2⟩:=one
   refine ⟨v :: vs,?_,by simp [i2],fun i x hx=>?_⟩
   ·simp only [List.mapM_cons,Sem.run_bind,v1,i1,Result.andThen_ok,Sem.run_pure]
   ·cases i with
    | zero=>simp at hx;subst hx;exact ⟨v,rfl,v2⟩
    | succ i=>exact i3 i x (by simpa using hx)
  ·cases hr
theorem A7 {P:Program} {f:FuncId} {args:List AV} {ins:List Ob} {R:AV->List Ob->Prop} {fn:Func} {c:Code} (hf:P.funcs[f]?=some fn) (hb:fn.body=some c) (hn:args.length<=fn.ntmps)
  (h:AW P c { tm:=B4 0 args,hp:=ins,n:=fn.ntmps,pin:=ins.length } (Vl P fn.results.toList ins.length R)):FC P f args ins R:=by
 intro g w vals hr hargs
 refine calls_of_wp hf hb ?_
 have hR:Rel ⟨Gg ins g,g⟩ w { tm:=B4 0 args,hp:=ins,n:=fn.ntmps,pin:=ins.length } { tmps:=vals.toArray++Array.replicate (fn.ntmps - vals.toArray.size) undef,defers:=[] } w:=by
  refine ⟨g,⟨gBu _,Ext.refl _ _⟩,hr,fun ℓ hl=>.inl ⟨ℓ,hl,rfl⟩,fun d=>?_,?_,rfl,Fp.refl _ _⟩
  rotate_left
  ·simp;have:=hargs.1;omega
  show AVR _ (Ek (B4 0 args) d) _
  rw [Mi]
  simp only [gBE,if_true,Nat.sub_zero]
  cases hx:args[d]? with
  | none=>exact QI
  | some x=>
   obtain ⟨v,v1,v2⟩:=hargs.2 d x hx
   have hlt:d<vals.length:=(List.getElem?_eq_some_iff.1 v1).1
   have:((vals.toArray++Array.replicate (fn.ntmps - vals.toArray.size) undef).getD d undef)=v:=by
    rw [Array.getD_eq_getD_getElem?,Array.getElem?_append_left (by simpa using hlt)]
    simp [v1]
   rw [this];exact v2
 refine wp_mono (h _ w _ w hR) ?_
 rintro e a' w' ⟨st,hRel,he,st',c',r,hle,hpin,hres,hc',hRr⟩
 obtain ⟨g',⟨p1,p2⟩,hG⟩:=hle _ w a' w' hRel
 have key:a'.defers=[]/\∃ v,(results fn a'.tmps).run P w'=.ok v w'/\OC g ins w R (.returned v) w':=by
  refine ⟨hG.df,?_⟩
  unfold Cq at hres
  have fin:∀ v,AVR (CR g' st'.hp w') r v->OC g ins w R (.returned v) w':=fun v hv=>
   ⟨v,r,st'.hp,g',rfl,hRr,hG.hr,⟨by rw [<- hpin];exact p1,by rw [<- hpin];exact p2⟩,hG.new,hv,hG.fp⟩
  have hrun:∀ {vs:List Value},(fn.results.toList.mapM (QO a'.tmps)).run P w'=.ok vs w'->
    (results fn a'.tmps).run P w'=.ok (if h:vs.toArray.size=1 then vs.toArray[0] else .tuple vs.toArray) w':=by
   intro vs hvs
   rw [Lg]
   simp only [Array.mapM_eq_mapM_toList,Sem.run_bind,Sem.run_map,hvs,Result.andThen_ok,Sem.run_pure]
  split at hres
  rotate_left 2
  ·cases hres
  ·rename_i c1 x hl
   simp only [gBI,gBJ] at hres
   obtain ⟨rfl,rfl⟩:=hres
   obtain ⟨vs,v1,v2,v3⟩:=FJ (P:=P) hG hl hc'
   obtain ⟨u,u1,u2⟩:=v3 0 x rfl
   have hvs:vs=[u]:=by
    cases vs with
    | nil=>simp at v2
    | cons y ys=>
     simp at v2 u1
     subst u1;subst v2;rfl
   subst hvs
   exact ⟨u,by simpa using hrun v1,fin u u2⟩
  rename_i c1 xs hne hl
  simp only [gBI,gBJ] at hres
  obtain ⟨rfl,rfl⟩:=hres
  obtain ⟨vs,v1,v2,v3⟩:=FJ (P:=P) hG hl hc'
  refine ⟨.tuple vs.toArray,?_,fin _ ⟨vs,rfl,v2,v3⟩⟩
  rw [hrun v1,dif_neg]
  intro h1
  have h1':xs.length=1:=by rw [<- v2];simpa using h1
  obtain ⟨x,rfl⟩:=List.length_eq_one_iff.1 h1'
  exact hne x rfl
 rcases he with rfl | rfl <;> exact key
def Vm (P:Program) (rs:List ResultVar) (st:ST) (R:AV->List Ob->Prop):Prop:=
 match Cq P st rs with
 | some (c,r)=>c/\R r st.hp
 | none=>False
theorem AN {P:Program} {rs:List ResultVar} {n:Nat} {R:AV->List Ob->Prop} {e:Exit} {st:ST} (he:e=.ret\/e=.normal) (hp:st.pin=n) (h:Vm P rs st R):Vl P rs n R e st:=by
 unfold Vm at h
 split at h
 rotate_left
 ·exact h.elim
 rename_i c r hr
 exact ⟨he,st,c,r,Le.refl _,hp,hr,h.1,h.2⟩
theorem AB {P:Program} {rs:List ResultVar} {n:Nat} {R:AV->List Ob->Prop} {e:Exit} {st st':ST} (hl:Le st st') (h:Vl P rs n R e st'):Vl P rs n R e st:=by
 obtain ⟨he,s,c,r,h1,h2⟩:=h
 exact ⟨he,s,c,r,hl.trans h1,h2⟩
def Vn (σ:List Nat) (n i:Nat):Nat:=if i < σ.length then σ.getD i 0 else n+(i - σ.length)
def dn (σ:List Nat) (n id:Nat):Option Nat:=
 match idx σ id 0 with
 | some i=>some i
 | none=>if n<=id then some (id - n + σ.length) else none
def C.up (f:Nat->Nat):C->C
 | .s id n=>.s (f id) n
 | .p id off=>.p (f id) off
 | .b id j n=>.b (f id) j n
 | .m id=>.m (f id)
 | .w id off n k=>.w (f id) off n k
 | .f fn ids=>.f fn (ids.map f)
 | .it mid since seen last=>.it (mid.map f) since seen last
 | c=>c
def A0.up (f:Nat->Nat):A0->A0
 | .c x=>.c (x.up f)
 | .g xs=>.g (xs.map (C.up f))
def AV.up (f:Nat->Nat):AV->AV
 | .a x=>.a (x.up f)
 | .tup xs=>.tup (xs.map (A0.up f))
def Ob.up (f:Nat->Nat):Ob->Ob
 | .x=>.x
 | .d=>.d
 | .r q=>.r { q with cells:=q.cells.map (C.up f) }
 | .m kv=>.m (kv.map fun p=>(p.1,p.2.up f))
def Do:List Ob->List Nat->List Ob->List Ob
 | hp,i :: σ,o :: outs=>Do (hp.set i o) σ outs
 | hp,_,outs=>hp++outs
def C.nb (σ:List Nat):C->C
 | .b id j n=>if σ.contains id then .u else .b id j n
 | c=>c
def A0.nb (σ:List Nat):A0->A0
 | .c x=>.c (x.nb σ)
 | .g xs=>.g (xs.map (C.nb σ))
def AV.nb (σ:List Nat):AV->AV
 | .a x=>.a (x.nb σ)
 | .tup xs=>.tup (xs.map (A0.nb σ))
def Oh (σ:List Nat) (tm:List (Nat × AV)):List (Nat × AV):=
 match σ with
 | []=>tm
 | _=>tm.map fun p=>(p.1,p.2.nb σ)
def ST.back (st:ST) (σ:List Nat) (outs:List Ob):ST:={ st with tm:=Oh σ st.tm,hp:=Do st.hp σ (outs.map (Ob.up (Vn σ st.hp.length))) }

theorem HS (σ:List Nat) (id j:Nat):idx σ id j=(idx σ id 0).map (·+j):=by
 induction σ generalizing j with
 | nil=>rfl
 | cons x r ih=>
  simp only [idx]
  split
  ·simp
  rw [ih (j+1),ih 1]
  cases idx r id 0 <;> simp [Nat.add_assoc,Nat.add_comm 1 j]
theorem JM {σ:List Nat} {id:Nat} (h:idx σ id 0=none):id ∉ σ:=by
 induction σ with
 | nil=>simp
 | cons x r ih=>
  simp only [idx] at h
  split at h
  ·cases h
  rw [HS] at h
  simp at h
  intro hm
  rcases gB2.1 hm with rfl | hm
  ·rename_i hne;exact hne rfl
  exact ih h hm
theorem Tf {σ:List Nat} (hd:B1 σ=true) {i id:Nat} (h:σ[i]?=some id):idx σ id 0=some i:=by
 cases hx:idx σ id 0 with
 | none=>exact absurd (gE9 h) (JM hx)
 | some j=>rw [Dw hd (BA hx) h]
theorem Gs (hp:List Ob) (σ:List Nat) (outs:List Ob) (h:σ.length<=outs.length):(Do hp σ outs).length=hp.length+(outs.length - σ.length):=by
 induction σ generalizing hp outs with
 | nil=>cases outs <;> simp [Do]
 | cons s σ ih=>
  cases outs with
  | nil=>simp at h
  | cons o outs=>
   simp only [Do]
   rw [ih _ _ (by simpa using h)]
   simp
theorem Lh (hp:List Ob) (σ:List Nat) (outs:List Ob) (h:σ.length<=outs.length) (hd:B1 σ=true) (hl:∀ i∈σ,i<hp.length) (id:Nat):
  (Do hp σ outs)[id]?=match dn σ hp.length id with | some i=>outs[i]? | none=>hp[id]?:=by
 induction σ generalizing hp outs with
 | nil=>
  have:Do hp [] outs=hp++outs:=by cases outs <;> rfl
  rw [this]
  unfold dn
  simp only [idx]
  split
  rotate_left
  ·rename_i hi
   split at hi
   ·cases hi
   rename_i hlt
   rw [gEa (by omega)]
  rename_i i hi
  split at hi
  rotate_left
  ·cases hi
  cases hi
  rename_i hge
  rw [gEb hge];simp
 | cons s σ ih=>
  cases outs with
  | nil=>simp at h
  | cons o outs=>
   simp only [B1,gA1,gA7] at hd
   obtain ⟨XP,hd2⟩:=hd
   have hs:s ∉ σ:=by simpa using XP
   simp only [Do]
   rw [ih _ _ (by simpa using h) hd2 (fun i hi=>by simpa using hl i (gEf _ hi))]
   have hsl:=hl s (by simp)
   by_cases e:s=id
   ·subst e
    have h1:idx σ s 0=none:=by
     cases hx:idx σ s 0 with
     | none=>rfl
     | some j=>exact absurd (gE9 (BA hx)) hs
    unfold dn
    simp only [h1,idx,if_true,gAQ]
    rw [if_neg (by omega)]
    simp [hsl]
   unfold dn
   simp only [idx,if_neg e,gAQ]
   rw [HS σ id (0+1)]
   cases hx:idx σ id 0 with
   | some j=>simp
   | none=>
    simp only [Option.map_none,gAJ]
    by_cases hge:hp.length<=id
    rotate_left
    ·rw [if_neg hge,if_neg hge]
     rw [gE5 e]
    rw [if_pos hge,if_pos hge]
    rw [show id - hp.length+(σ.length+1)=(id - hp.length + σ.length)+1 from by omega]
    simp
theorem Mk {σ:List Nat} {n i:Nat} (hd:B1 σ=true) (hl:∀ j∈σ,j<n):dn σ n (Vn σ n i)=some i:=by
 unfold Vn
 split
 ·rename_i hi
  unfold dn
  have:σ[i]?=some (σ.getD i 0):=by rw [List.getD,gE1 hi];rfl
  rw [Tf hd this]
 rename_i hi
 unfold dn
 cases hx:idx σ (n+(i - σ.length)) 0 with
 | some j=>
  have:=hl _ (gE9 (BA hx))
  omega
 | none=>
  simp only
  rw [if_pos (by omega)]
  congr 1
  omega
def Gh.bk (g g':Gh) (σ:List Nat) (n:Nat):Gh:=
 ⟨fun ℓ=>match ℓ with
   | .ob id=>match dn σ n id with | some i=>g'.γ (.ob i) | none=>g.γ (.ob id)
   | .cl id j=>match dn σ n id with | some i=>g'.γ (.cl i j) | none=>g.γ (.cl id j),
  fun id=>match dn σ n id with | some i=>g'.κ i | none=>g.κ id,g.M⟩
theorem Uc {f:Nat->Nat} {c:C} {k:Nat × Nat} {cs:List Tr} (h:c.up f=.o k cs):c=.o k cs:=by cases c <;> first | exact h | cases h
section
variable {g g' : Gh} {hp outs : List Ob} {w w' : World} {σ : List Nat}
structure Bk (g g':Gh) (hp outs:List Ob) (w w':World) (σ:List Nat):Prop where
 hr:HR g hp w
 hr':HR g' outs w'
 len:σ.length<=outs.length
 d:B1 σ=true
 lt:∀ i∈σ,i<hp.length
 m:∀ b,(g.M b\/∃ ℓ,Lv hp g ℓ/\g.γ ℓ=b/\(match ℓ with | .ob i=>i ∉ σ | .cl i _=>i ∉ σ))->g'.M b
 fx:∀ b,b<w.heap.size->g'.M b->w'.heap[b]?=w.heap[b]?
 sz:w.heap.size<=w'.heap.size
 fx2:∀ b,b<w.heap.size->¬ Ow hp g b->w'.heap[b]?=w.heap[b]?
 pin:∀ i id,σ[i]?=some id->g'.γ (.ob i)=g.γ (.ob id)/\g'.κ i=g.κ id
 new:∀ ℓ,Lv outs g' ℓ->Gg hp g (g'.γ ℓ)\/w.heap.size<=g'.γ ℓ
abbrev Vo (hp outs:List Ob) (σ:List Nat):List Ob:=Do hp σ (outs.map (Ob.up (Vn σ hp.length)))
theorem Bk.get (h:Bk g g' hp outs w w' σ) (id:Nat):(Vo hp outs σ)[id]?=match dn σ hp.length id with | some i=>(outs[i]?).map (Ob.up (Vn σ hp.length)) | none=>hp[id]?:=by
 unfold Vo
 rw [Lh hp σ _ (by simpa using h.len) h.d h.lt]
 cases dn σ hp.length id <;> simp
theorem JN {o:Ob} {f:Nat->Nat} {r':Row} (h:o.up f=.r r'):∃ r,o=.r r/\r'={ r with cells:=r.cells.map (C.up f) }:=by
 cases o <;> simp only [Ob.up] at h <;> first | (cases h;done) | (cases h;exact ⟨_,rfl,rfl⟩)
theorem Tg {o:Ob} {f:Nat->Nat} {kv':List (Value × C)} (h:o.up f=.m kv'):∃ kv,o=.m kv/\kv'=kv.map fun p=>(p.1,p.2.up f):=by
 cases o <;> simp only [Ob.up] at h <;> first | (cases h;done) | (cases h;exact ⟨_,rfl,rfl⟩)
theorem GQ {n id:Nat} (h:dn σ n id=none):id ∉ σ/\id<n:=by
 unfold dn at h
 split at h
 ·cases h
 rename_i hx
 split at h
 ·cases h
 exact ⟨JM hx,by omega⟩
theorem Bk.lv (h:Bk g g' hp outs w w' σ) {ℓ:Loc} (hl:Lv (Vo hp outs σ) (g.bk g' σ hp.length) ℓ):
  (∃ ℓ',Lv outs g' ℓ'/\(g.bk g' σ hp.length).γ ℓ=g'.γ ℓ'/\(match ℓ,ℓ' with | .ob id,.ob i=>dn σ hp.length id=some i | .cl id j,.cl i j'=>dn σ hp.length id=some i/\j=j' | _,_=>False))\/
  (Lv hp g ℓ/\(g.bk g' σ hp.length).γ ℓ=g.γ ℓ/\(match ℓ with | .ob i=>i ∉ σ/\dn σ hp.length i=none | .cl i _=>i ∉ σ/\dn σ hp.length i=none)):=by
 cases ℓ with
 | ob id=>
  cases hd:dn σ hp.length id with
  | some i=>
   left
   refine ⟨.ob i,?_,by simp [Gh.bk,hd],hd⟩
   rcases hl with ⟨r',e1,e2⟩ | ⟨kv',e1⟩
   rotate_left
   ·rw [h.get,hd] at e1
    simp only [gBG] at e1
    obtain ⟨o,o1,o2⟩:=e1
    obtain ⟨kv,rfl,_⟩:=Tg o2
    exact .inr ⟨kv,o1⟩
   rw [h.get,hd] at e1
   simp only [gBG] at e1
   obtain ⟨o,o1,o2⟩:=e1
   obtain ⟨r,rfl,_⟩:=JN o2
   exact .inl ⟨r,o1,by simpa [Gh.bk,hd] using e2⟩
  | none=>
   right
   refine ⟨?_,by simp [Gh.bk,hd],(GQ hd).1,hd⟩
   rcases hl with ⟨r',e1,e2⟩ | ⟨kv',e1⟩
   rotate_left
   ·rw [h.get,hd] at e1
    exact .inr ⟨kv',e1⟩
   rw [h.get,hd] at e1
   exact .inl ⟨r',e1,by simpa [Gh.bk,hd] using e2⟩
 | cl id j=>
  obtain ⟨r',k,cs,e1,e2,e3⟩:=hl
  cases hd:dn σ hp.length id with
  | some i=>
   left
   rw [h.get,hd] at e1
   simp only [gBG] at e1
   obtain ⟨o,o1,o2⟩:=e1
   obtain ⟨r,rfl,rfl⟩:=JN o2
   simp only [gAC,gBG] at e2
   obtain ⟨c,c1,c2⟩:=e2
   have:=Uc c2
   subst this
   exact ⟨.cl i j,⟨r,k,cs,o1,c1,e3⟩,by simp [Gh.bk,hd],hd,rfl⟩
  | none=>
   right
   rw [h.get,hd] at e1
   exact ⟨⟨r',k,cs,e1,e2,e3⟩,by simp [Gh.bk,hd],(GQ hd).1,hd⟩
theorem Bk.ow (h:Bk g g' hp outs w w' σ) {b:Nat} (ho:Ow (Vo hp outs σ) (g.bk g' σ hp.length) b):Ow outs g' b:=by
 rcases ho with ho | ⟨ℓ,hl,rfl⟩
 ·exact .inl (h.m b (.inl ho))
 rcases h.lv hl with ⟨ℓ',h1,h2,_⟩ | ⟨h1,h2,h3⟩
 ·exact .inr ⟨ℓ',h1,h2.symm⟩
 refine .inl (h.m _ (.inr ⟨ℓ,h1,h2.symm,?_⟩))
 cases ℓ <;> exact h3.1
theorem Bk.up (h:Bk g g' hp outs w w' σ) {c:C} {y:Value} (hc:CR g' outs w' c y):CR (g.bk g' σ hp.length) (Vo hp outs σ) w' (c.up (Vn σ hp.length)) y:=by
 have bn:∀ i,Bn outs i->Bn (Vo hp outs σ) (Vn σ hp.length i):=by
  rintro i ⟨o,h1,h2⟩
  refine ⟨o.up (Vn σ hp.length),?_,by cases o <;> first | rfl | cases h2⟩
  rw [h.get,Mk h.d h.lt]
  simp [h1]
 have gg:∀ i,(g.bk g' σ hp.length).γ (.ob (Vn σ hp.length i))=g'.γ (.ob i)/\(g.bk g' σ hp.length).κ (Vn σ hp.length i)=g'.κ i:=by
  intro i
  simp [Gh.bk,Mk h.d h.lt]
 have hmono:∀ {t:Tr} {v:Value},Rd (Ow outs g') w' t v->Rd (Ow (Vo hp outs σ) (g.bk g' σ hp.length)) w' t v:=fun hr=>hr.mono (fun _ _ ho=>h.ow ho)
 cases c with
 | u=>trivial
 | v x=>exact hc
 | t k cs=>exact hmono hc
 | s id n=>
  obtain ⟨h1,h2,A,h3,h4,h5⟩:=hc
  exact ⟨bn id h1,by rw [(gg id).2];exact h2,A,by rw [(gg id).2];exact h3,by rw [(gg id).1,(gg id).2];exact h4,h5⟩
 | p id off=>obtain ⟨h1,h2⟩:=hc;exact ⟨bn id h1,by rw [(gg id).1];exact h2⟩
 | q cs off=>
  obtain ⟨b,o,us,h1,h2,h3,h4,h5⟩:=hc
  exact ⟨b,o,us,h1,fun ho=>h2 (h.ow ho),h3,h4,fun j t hj=>hmono (h5 j t hj)⟩
 | o k cs=>exact hc
 | b id j n=>
  obtain ⟨h1,h2⟩:=hc
  refine ⟨bn id h1,fun r' k cs e1 e2=>?_⟩
  rw [h.get,Mk h.d h.lt] at e1
  simp only [gBG] at e1
  obtain ⟨o,o1,o2⟩:=e1
  obtain ⟨r,rfl,rfl⟩:=JN o2
  simp only [gAC,gBG] at e2
  obtain ⟨c,c1,c2⟩:=e2
  have:=Uc c2
  subst this
  rw [(gg id).1]
  exact h2 r k cs o1 c1
 | m id=>obtain ⟨h1,h2⟩:=hc;exact ⟨bn id h1,by rw [(gg id).1];exact h2⟩
 | w id off n k=>obtain ⟨h1,h2,h3,h4⟩:=hc;exact ⟨bn id h1,by rw [(gg id).2];exact h2,by rw [(gg id).2];exact h3,by rw [(gg id).1,(gg id).2];exact h4⟩
 | f fn ids=>
  obtain ⟨h1,h2⟩:=hc
  refine ⟨fun i hi=>?_,?_⟩
  ·simp only [gB7] at hi
   obtain ⟨id,hid,rfl⟩:=hi
   exact bn id (h1 id hid)
  rw [h2]
  unfold V2
  rw [gAW]
  congr 2
  exact gAU (fun id _=>by simp only [Function.comp];rw [(gg id).1])
 | it _ _ _ _=>exact hc.elim
theorem Bk.upCell (h:Bk g g' hp outs w w' σ) {i id j:Nat} (hd:dn σ hp.length id=some i) {c:C} {y:Value} (hc:CellR g' outs w' i j c y):CellR (g.bk g' σ hp.length) (Vo hp outs σ) w' id j (c.up (Vn σ hp.length)) y:=by
 cases c with
 | o k cs=>
  rcases hc with h1 | ⟨h1,n,c,arr,h2,h3,h4,h5,h6,h7,h8⟩
  ·exact .inl h1
  have e:(g.bk g' σ hp.length).γ (.cl id j)=g'.γ (.cl i j):=by simp [Gh.bk,hd]
  exact .inr ⟨h1,n,c,arr,by rw [e];exact h2,h3,h4,h5,by rw [e];exact h6,h7,fun q t hq=>by obtain ⟨u,u1,u2⟩:=h8 q t hq;exact ⟨u,u1,u2.mono (fun _ _ ho=>h.ow ho)⟩⟩
 | b _ _ _=>exact hc.elim
 | u=>trivial
 | v x=>exact h.up (c:=.v x) hc
 | t k cs=>exact h.up (c:=.t k cs) hc
 | s id n=>exact h.up (c:=.s id n) hc
 | p id off=>exact h.up (c:=.p id off) hc
 | q cs off=>exact h.up (c:=.q cs off) hc
 | m id=>exact h.up (c:=.m id) hc
 | w id off n k=>exact h.up (c:=.w id off n k) hc
 | f fn ids=>exact h.up (c:=.f fn ids) hc
 | it _ _ _ _=>exact hc.elim
theorem Bk.mo (h:Bk g g' hp outs w w' σ) (hs:∀ i id,σ[i]?=some id->Bn hp id->Bn outs i):Mo g hp w (g.bk g' σ hp.length) (Vo hp outs σ) w' (fun id=>id ∉ σ):=by
 refine ⟨fun id hid=>?_,fun b hb ho=>?_,h.sz,h.fx2,fun id hS hid r' j k cs e1 e2=>?_⟩
 rotate_left
 ·rcases ho with ho | ⟨ℓ,hl,rfl⟩
  ·exact .inl ho
  rcases h.lv hl with ⟨ℓ',h1,h2,_⟩ | ⟨h1,h2,h3⟩
  rotate_left
  ·exact .inr ⟨ℓ,h1,h2.symm⟩
  rcases h.new ℓ' h1 with h4 | h4
  ·rw [h2];exact .inr h4
  rw [h2] at hb;omega
 ·have hd:dn σ hp.length id=none:=by
   unfold dn
   obtain ⟨o,o1,o2⟩:=hid
   have hlt:id<hp.length:=(List.getElem?_eq_some_iff.1 o1).1
   cases hx:idx σ id 0 with
   | some i=>exact absurd (gE9 (BA hx)) hS
   | none=>simp only;rw [if_neg (by omega)]
  rw [h.get,hd] at e1
  refine ⟨r',e1,e2,fun hlt=>?_⟩
  by_cases h0:g.κ id=0
  rotate_left
  ·exact World.cell?_of_block (h.fx _ hlt (h.m _ (.inr ⟨.ob id,.inl ⟨r',e1,h0⟩,rfl,hS⟩)))
  rcases h.hr.row id r' e1 with ⟨_,h2⟩ | ⟨h2,_⟩
  ·rw [h2] at e2;simp at e2
  exact absurd h0 h2
 obtain ⟨o,o1,o2⟩:=hid
 have hlt:id<hp.length:=(List.getElem?_eq_some_iff.1 o1).1
 cases hd:dn σ hp.length id with
 | none=>exact ⟨⟨o,by rw [h.get,hd];exact o1,o2⟩,by simp [Gh.bk,hd],by simp [Gh.bk,hd]⟩
 | some i=>
  have hσ:σ[i]?=some id:=by
   unfold dn at hd
   split at hd
   rotate_left
   ·rw [if_neg (by omega)] at hd;cases hd
   rename_i i' hi
   cases hd
   exact BA hi
  obtain ⟨p1,p2⟩:=h.pin i id hσ
  obtain ⟨o',q1,q2⟩:=hs i id hσ ⟨o,o1,o2⟩
  refine ⟨⟨o'.up (Vn σ hp.length),by rw [h.get,hd];simp [q1],by cases o' <;> first | rfl | cases q2⟩,by simp [Gh.bk,hd,p1],by simp [Gh.bk,hd,p2]⟩
theorem Bk.hrb (h:Bk g g' hp outs w w' σ) (hs:∀ i id,σ[i]?=some id->Bn hp id->Bn outs i):HR (g.bk g' σ hp.length) (Vo hp outs σ) w':=by
 have hm:=h.mo hs
 have dinj:∀ {a b i:Nat},dn σ hp.length a=some i->dn σ hp.length b=some i->a=b:=by
  intro a b i ha hb
  unfold dn at ha hb
  split at ha
  rotate_left
  ·split at ha
   rotate_left
   ·cases ha
   cases ha
   split at hb
   rotate_left
   ·split at hb
    ·injection hb with hb;omega
    cases hb
   rename_i i2 h2
   cases hb
   have:=(List.getElem?_eq_some_iff.1 (BA h2)).1
   omega
  rename_i i1 h1
  cases ha
  split at hb
  rotate_left
  ·split at hb
   rotate_left
   ·cases hb
   cases hb
   have:=(List.getElem?_eq_some_iff.1 (BA h1)).1
   omega
  rename_i i2 h2
  cases hb
  have e1:=BA h1
  have e2:=BA h2
  rw [e1] at e2;cases e2;rfl
 have old:∀ ℓ,Lv hp g ℓ->(match ℓ with | .ob i=>i ∉ σ | .cl i _=>i ∉ σ)->w'.heap[g.γ ℓ]?=w.heap[g.γ ℓ]?:=fun ℓ hl hn=>h.fx _ (h.hr.lt hl) (h.m _ (.inr ⟨ℓ,hl,rfl,hn⟩))
 refine ⟨fun b hb=>gBw (h.hr.ml b hb) h.sz,fun ℓ hl hM=>?_,fun ℓ1 ℓ2 hl1 hl2 he=>?_,fun id r' e1=>?_,fun id kv' e1=>?_,hm.gl h.hr.gl⟩
 ·rcases h.lv hl with ⟨ℓ',h1,h2,_⟩ | ⟨h1,h2,_⟩
  ·rw [h2] at hM;exact h.hr'.md ℓ' h1 (h.m _ (.inl hM))
  rw [h2] at hM;exact h.hr.md ℓ h1 hM
 ·rcases h.lv hl1 with ⟨a1,a2,a3,a4⟩ | ⟨a2,a3,a4⟩
  rotate_left
  ·rcases h.lv hl2 with ⟨b1,b2,b3,b4⟩ | ⟨b2,b3,b4⟩
   rotate_left
   ·rw [a3,b3] at he
    exact h.hr.inj _ _ a2 b2 he
   exfalso
   rw [a3,b3] at he
   exact h.hr'.md b1 b2 (h.m _ (.inr ⟨ℓ1,a2,he,by cases ℓ1 <;> exact a4.1⟩))
  rcases h.lv hl2 with ⟨b1,b2,b3,b4⟩ | ⟨b2,b3,b4⟩
  rotate_left
  ·exfalso
   rw [a3,b3] at he
   exact h.hr'.md a1 a2 (h.m _ (.inr ⟨ℓ2,b2,he.symm,by cases ℓ2 <;> exact b4.1⟩))
  rw [a3,b3] at he
  have:=h.hr'.inj _ _ a2 b2 he
  subst this
  cases ℓ1 <;> cases ℓ2 <;> cases a1 <;> simp only at a4 b4
  ·rw [dinj a4 b4]
  obtain ⟨a4,rfl⟩:=a4;obtain ⟨b4,rfl⟩:=b4;rw [dinj a4 b4]
 ·cases hd:dn σ hp.length id with
  | some i=>
   rw [h.get,hd] at e1
   simp only [gBG] at e1
   obtain ⟨o,o1,o2⟩:=e1
   obtain ⟨r,rfl,rfl⟩:=JN o2
   have ek:(g.bk g' σ hp.length).κ id=g'.κ i:=by simp [Gh.bk,hd]
   have eg:(g.bk g' σ hp.length).γ (.ob id)=g'.γ (.ob i):=by simp [Gh.bk,hd]
   rcases h.hr'.row i r o1 with ⟨k1,k2⟩ | ⟨k1,k2,arr,k3,k4,k5,k6,k7⟩
   ·exact .inl ⟨by rw [ek];exact k1,by simp [k2]⟩
   refine .inr ⟨by rw [ek];exact k1,fun hs hn=>k2 hs (by simpa using hn),arr,by rw [eg];exact k3,by simpa using k4,by rw [ek];exact k5,by rw [ek];exact k6,fun j x hj=>?_⟩
   simp only [gAC,gBG] at hj
   obtain ⟨c,c1,rfl⟩:=hj
   obtain ⟨u,u1,u2⟩:=k7 j c c1
   exact ⟨u,u1,h.upCell hd u2⟩
  | none=>
   rw [h.get,hd] at e1
   have hn:=(GQ hd).1
   exact RowR.mo hm e1 (h.hr.row id r' e1) (fun h0=>old (.ob id) (.inl ⟨r',e1,h0⟩) hn) (fun j k cs hj hne=>⟨by simp [Gh.bk,hd],old (.cl id j) ⟨r',k,cs,e1,hj,hne⟩ hn⟩)
 cases hd:dn σ hp.length id with
 | some i=>
  rw [h.get,hd] at e1
  simp only [gBG] at e1
  obtain ⟨o,o1,o2⟩:=e1
  obtain ⟨kv,rfl,rfl⟩:=Tg o2
  have eg:(g.bk g' σ hp.length).γ (.ob id)=g'.γ (.ob i):=by simp [Gh.bk,hd]
  rcases h.hr'.mp i kv o1 with ⟨mid,since,seen,last,rfl,m0,k1,k2⟩ | ⟨es,clock,k1,k2,k3,k4⟩
  ·refine .inl ⟨mid.map (Vn σ hp.length),since,seen,last,rfl,m0,by rw [eg];exact k1,fun m hm=>?_⟩
   cases mid with
   | none=>cases hm
   | some mm=>
    obtain ⟨⟨o,q1,q3⟩,q2⟩:=k2 mm rfl
    cases hm
    refine ⟨⟨o.up (Vn σ hp.length),?_,by cases o <;> first | rfl | cases q3⟩,by rw [q2];simp [Gh.bk,Mk h.d h.lt]⟩
    rw [h.get,Mk h.d h.lt]
    simp [q1]
  refine .inr ⟨es,clock,by rw [eg];exact k1,by simpa using k2,fun q p hq=>?_,k4⟩
  rw [gAC,gBG] at hq
  obtain ⟨p',p1,rfl⟩:=hq
  obtain ⟨⟨e,f1,f2,f3⟩,f4⟩:=k3 q p' p1
  exact ⟨⟨e,f1,f2,h.upCell hd f3⟩,fun k cs e=>f4 k cs (Uc e)⟩
 | none=>
  rw [h.get,hd] at e1
  have hn:=(GQ hd).1
  exact MpR.mo hm e1 (h.hr.mp id kv' e1) (old (.ob id) (.inr ⟨kv',e1⟩) hn)
end
theorem C.nb_ok {g g':Gh} {hp hp':List Ob} {w w':World} {σ:List Nat} (hm:Mo g hp w g' hp' w' (fun id=>id ∉ σ)) {c:C} {y:Value} (h:CR g hp w c y):CR g' hp' w' (c.nb σ) y:=by
 cases c with
 | b id j n=>
  simp only [C.nb]
  split
  ·trivial
  rename_i hn
  exact CR.mo hm (c:=.b id j n) (by simpa [C.bok] using hn) h
 | u=>trivial
 | v x=>exact CR.mo hm (c:=.v x) trivial h
 | t k cs=>exact CR.mo hm (c:=.t k cs) trivial h
 | s id n=>exact CR.mo hm (c:=.s id n) trivial h
 | p id off=>exact CR.mo hm (c:=.p id off) trivial h
 | q cs off=>exact CR.mo hm (c:=.q cs off) trivial h
 | o k cs=>exact h.elim
 | m id=>exact CR.mo hm (c:=.m id) trivial h
 | w id off n k=>exact CR.mo hm (c:=.w id off n k) trivial h
 | f fn ids=>exact CR.mo hm (c:=.f fn ids) trivial h
 | it _ _ _ _=>exact h.elim
theorem A0R.nb {R R':C->Value->Prop} {σ:List Nat} (hf:∀ c y,R c y->R' (c.nb σ) y) {x:A0} {y:Value} (h:A0R R x y):A0R R' (x.nb σ) y:=by
 cases x with
 | c x=>exact hf _ _ h
 | g xs=>obtain ⟨us,h1,h2⟩:=h;exact ⟨us,h1,h2.map hf⟩
theorem AVR.nb {R R':C->Value->Prop} {σ:List Nat} (hf:∀ c y,R c y->R' (c.nb σ) y) {x:AV} {y:Value} (h:AVR R x y):AVR R' (x.nb σ) y:=by
 cases x with
 | a x=>exact A0R.nb hf h
 | tup xs=>
  obtain ⟨us,h1,h2,h3⟩:=h
  refine ⟨us,h1,by simp [h2],fun i x hx=>?_⟩
  rw [gAC,gBG] at hx
  obtain ⟨c,hc,rfl⟩:=hx
  obtain ⟨u,e1,e2⟩:=h3 i c hc
  exact ⟨u,e1,A0R.nb hf e2⟩
theorem A0R.up {R R':C->Value->Prop} {f:Nat->Nat} (hf:∀ c y,R c y->R' (c.up f) y) {x:A0} {y:Value} (h:A0R R x y):A0R R' (x.up f) y:=by
 cases x with
 | c x=>exact hf _ _ h
 | g xs=>obtain ⟨us,h1,h2⟩:=h;exact ⟨us,h1,h2.map hf⟩
theorem AVR.up {R R':C->Value->Prop} {f:Nat->Nat} (hf:∀ c y,R c y->R' (c.up f) y) {x:AV} {y:Value} (h:AVR R x y):AVR R' (x.up f) y:=by
 cases x with
 | a x=>exact A0R.up hf h
 | tup xs=>
  obtain ⟨us,h1,h2,h3⟩:=h
  refine ⟨us,h1,by simp [h2],fun i x hx=>?_⟩
  rw [gAC,gBG] at hx
  obtain ⟨c,hc,rfl⟩:=hx
  obtain ⟨u,e1,e2⟩:=h3 i c hc
  exact ⟨u,e1,A0R.up hf e2⟩
def B3 (P:Program) (f:FuncId):Bool:=
 match P.funcs[f]? with
 | some fn=>fn.body.isSome && fn.name != "runtime.NumGoroutine"
 | none=>false
theorem C4 {P:Program} {f:FuncId} (h:B3 P f=true) (args:Array Value) (w:World):(callFunc f args).run P w=.ok (.enter f args) w:=by
 unfold B3 at h
 split at h
 rotate_left
 ·cases h
 rename_i fn hf
 simp only [gA1,bne_iff_ne,ne_eq,Option.isSome_iff_exists] at h
 obtain ⟨⟨c,hc⟩,hn⟩:=h
 have hn':(fn.name == "runtime.NumGoroutine")=false:=by simpa using hn
 simp [callFunc,hf,hn,hc]
def F9 (ids:List Nat):List AV:=ids.map fun id=>.a (.c (.p id 0))
theorem HT {P:Program} {o:Oper} {st:ST} {K:ST->Prop} {fop:Operand} {args:Array Operand} {ts:Array TypeId} {f:FuncId} {ids:List Nat} (σ:List Nat) {R:AV->List Ob->Prop}
  (hd:Vc o st.n=true) (ho:o.op=.call { callee:=.value fop,args:=args,argTypes:=ts }) (hf:st.ev fop=.a (.c (.f f ids))) (hcal:B3 P f=true) (hσ:B1 σ=true) (hlt:∀ i∈σ,i<st.hp.length)
  (hFC:FC P f ((args.toList.map st.ev++F9 ids).map (AV.ren σ)) (Vk st.hp σ) R)
  (hs:∀ r outs,R r outs->∀ (i:Nat) (o:Ob),outs[i]?=some o->i < σ.length->o.born=true)
  (hK:∀ r outs,R r outs->K ((st.back σ outs).put o.dst (r.up (Vn σ st.hp.length)))):StpC P o st K (σ=[]):=by
 intro M0 w0 a w N Q hR hN
 obtain ⟨g,⟨hp1,hp2⟩,hR⟩:=hR
 let M':Nat->Prop:=fun b=>Ow st.hp g b/\¬ Gg (Vk st.hp σ) (g.pk σ g.M) b
 have hM:∀ b,M' b->Ow st.hp g b:=fun b h=>h.1
 have hlive:∀ ℓ,Lv (Vk st.hp σ) (g.pk σ M') ℓ->Lv (Vk st.hp σ) (g.pk σ g.M) ℓ:=fun ℓ hl=>by cases ℓ <;> exact hl
 have hlive':∀ ℓ,Lv (Vk st.hp σ) (g.pk σ g.M) ℓ->Lv (Vk st.hp σ) (g.pk σ M') ℓ:=fun ℓ hl=>by cases ℓ <;> exact hl
 have hγ:∀ ℓ,(g.pk σ M').γ ℓ=(g.pk σ g.M).γ ℓ:=fun ℓ=>by cases ℓ <;> rfl
 have hml:∀ b,M' b->b<w.heap.size:=fun b h=>by
  rcases h.1 with h1 | ⟨ℓ,h1,rfl⟩
  ·exact hR.hr.ml b h1
  exact hR.hr.lt h1
 have hmd:∀ ℓ,Lv (Vk st.hp σ) (g.pk σ M') ℓ->¬ M' ((g.pk σ M').γ ℓ):=fun ℓ hl h=>h.2 ⟨ℓ,hlive ℓ hl,(hγ ℓ).symm⟩
 have hHR:HR (g.pk σ M') (Vk st.hp σ) w:=hR.hr.pk hM hml hmd hσ
 have hfv:=hR.ev fop
 rw [hf] at hfv
 obtain ⟨hids,hfv⟩:=hfv
 have hargs:HQ (g.pk σ M') (Vk st.hp σ) w ((args.toList.map st.ev++F9 ids).map (AV.ren σ)) ((args.map a.eval).toList++ids.map fun id=>Value.pointer (some ⟨g.γ (.ob id),0,none⟩)):=by
  refine ⟨by simp [F9],fun i x hx=>?_⟩
  rw [gAC,gBG] at hx
  obtain ⟨y,hy,rfl⟩:=hx
  rcases gBx i (args.toList.map st.ev).length with hl | hl
  ·rw [gEa hl,gAC,gBG] at hy
   obtain ⟨q,hq,rfl⟩:=hy
   refine ⟨a.eval q,?_,AVR.ren hM (hR.ev q)⟩
   rw [gEa (by simpa using hl)]
   simp only [Array.toList_map,gAC,hq,gBH]
  rw [gEb hl] at hy
  unfold F9 at hy
  rw [gAC,gBG] at hy
  obtain ⟨id,hid,rfl⟩:=hy
  refine ⟨.pointer (some ⟨g.γ (.ob id),0,none⟩),?_,AVR.ren hM ⟨hids id (gE9 hid),rfl⟩⟩
  rw [gEb (by simpa using hl)]
  simp only [gAN,Array.toList_map] at hid ⊢
  rw [gAC,hid];rfl
 have hcall:=hFC (g.pk σ M') w _ hHR hargs
 unfold Oper.wp execOp
 simp only [ho,resolve,hfv,V2,Deferred.ofValue,Sem.run_bind,Sem.run_pure,Result.andThen_ok,invoke]
 have e1:(#[]++args.map a.eval++(ids.map fun id=>Value.pointer (some ⟨g.γ (.ob id),0,none⟩)).toArray)=((args.map a.eval).toList++ids.map fun id=>Value.pointer (some ⟨g.γ (.ob id),0,none⟩)).toArray:=by simp
 rw [e1,C4 hcal]
 refine Calls.mono hcall ?_
 rintro e w' ⟨v,r,outs,g',rfl,hr,hHR',⟨hlen,hext⟩,hnew,hv,hfp⟩
 have hpl:(Vk st.hp σ).length=σ.length:=by simp [Vk]
 have hB:Bk g g' st.hp outs w w' σ:=by
  refine ⟨hR.hr,hHR',by rw [<- hpl];exact hlen,hσ,hlt,fun b hb=>?_,fun b hb hMb=>?_,hfp.size,fun b hb ho=>?_,fun i id hi=>?_,fun ℓ hl=>?_⟩
  rotate_left
  ·rw [hext.1] at hMb
   exact hfp.block b hb (fun ⟨ℓ,hl,e⟩=>hmd ℓ hl (e ▸ hMb))
  ·refine hfp.block b hb (fun ⟨ℓ,hl,e⟩=>ho (.inr ⟨τ σ ℓ,(Dx hl).1,?_⟩))
   rw [<- e,Cj]
  ·have hi':i<(Vk st.hp σ).length:=by rw [hpl];exact (List.getElem?_eq_some_iff.1 hi).1
   obtain ⟨p1,p2⟩:=hext.2 i hi'
   refine ⟨p1.trans ?_,p2.trans ?_⟩
   ·rw [Cj];simp only [τ,AO hi]
   show g.κ (σ.getD i 0)=_;rw [AO hi]
  ·rcases hnew ℓ hl with ⟨ℓ0,q1,q2⟩ | q
   rotate_left
   ·exact .inr q
   left
   exact ⟨τ σ ℓ0,(Dx q1).1,by rw [<- q2,Cj]⟩
  rw [hext.1]
  show M' b
  rcases hb with hb | ⟨ℓ,hl,rfl,hn⟩
  ·refine ⟨.inl hb,fun ⟨ℓ,hl,e⟩=>?_⟩
   rw [Cj] at e
   exact hR.hr.md _ (Dx hl).1 (e ▸ hb)
  refine ⟨.inr ⟨ℓ,hl,rfl⟩,fun ⟨ℓ',hl',e⟩=>?_⟩
  rw [Cj] at e
  obtain ⟨q1,id,q2⟩:=Dx hl'
  have:=hR.hr.inj _ _ q1 hl e
  subst this
  cases ℓ' with
  | ob i=>simp only [τ] at hn q2;rw [AO q2] at hn;exact hn (gE9 q2)
  | cl i j=>simp only [τ] at hn q2;rw [AO q2] at hn;exact hn (gE9 q2)
 have hsb:∀ i id,σ[i]?=some id->Bn st.hp id->Bn outs i:=by
  intro i id hi _
  have hil:i < σ.length:=(List.getElem?_eq_some_iff.1 hi).1
  have hlt':i<outs.length:=by have:=hB.len;omega
  exact ⟨outs[i],gE1 hlt',hs r outs hr i _ (gE1 hlt') hil⟩
 have hmo:=hB.mo hsb
 have hback:RelG (g.bk g' σ st.hp.length) M0.P w0 (st.back σ outs) a w':=by
  refine ⟨hB.hrb hsb,fun ℓ hl=>?_,fun d=>?_,hR.n,hR.df,?_⟩
  ·rcases hB.lv hl with ⟨ℓ',h1,h2,_⟩ | ⟨h1,h2,_⟩
   rotate_left
   ·rw [h2];exact hR.new ℓ h1
   rw [h2]
   rcases hB.new ℓ' h1 with ⟨ℓ0,q1,q2⟩ | q
   ·rw [<- q2];exact hR.new ℓ0 q1
   exact .inr (gBv hR.fp.size q)
  ·show AVR _ (Ek (Oh σ st.tm) d) _
   have key:=AVR.nb (σ:=σ) (fun c y hc=>C.nb_ok hmo hc) (hR.tm d)
   cases σ with
   | nil=>exact AVR.mo ⟨hmo.bn,hmo.ow,hmo.sz,hmo.fx,fun id _=>hmo.bo id (by simp)⟩ (hR.tm d)
   | cons s σ'=>
    have e2:Ek (Oh (s :: σ') st.tm) d=(st.get d).nb (s :: σ'):=Em _ rfl st.tm d
    rw [e2];exact key
  refine ⟨hfp.os.trans hR.fp.os,hfp.tape.trans hR.fp.tape,hfp.output.trans hR.fp.output,gBv hR.fp.size hfp.size,fun k hk hMk=>?_,gBv hR.fp.drawn hfp.drawn⟩
  rw [<- hR.fp.block k hk hMk]
  refine hfp.block k (gBw hk hR.fp.size) (fun ⟨ℓ,hl,e⟩=>?_)
  have h1:=(Dx hl).1
  rw [Cj] at e
  rcases hR.new _ h1 with q | q
  ·exact hMk (e ▸ q)
  omega
 refine hN _ _ _ (hK r outs hr) ⟨g.bk g' σ st.hp.length,⟨?_,?_⟩,hback.put (B5 hd) (AVR.up (fun c y hc=>hB.up hc) hv)⟩ (fun hσ0=>hfp.mono (fun b _ ⟨ℓ,hl,_⟩=>by
  subst hσ0
  cases ℓ with
  | ob i=>rcases hl with ⟨r,e,_⟩ | ⟨kv,e⟩ <;> simp [Vk] at e
  | cl i j=>obtain ⟨r,k,cs,e,_⟩:=hl;simp [Vk] at e))
 ·have:st.pin<=(st.back σ outs).hp.length:=by
   show st.pin<=(Do st.hp σ _).length
   rw [Gs _ _ _ (by simpa using hB.len)]
   omega
  cases o.dst <;> exact this
 have hx:Ext st.pin M0.g (g.bk g' σ st.hp.length):=by
  refine hp2.trans ⟨rfl,fun i hi=>?_⟩
  cases hdn:dn σ st.hp.length i with
  | none=>simp [Gh.bk,hdn]
  | some j=>
   have hσj:σ[j]?=some i:=by
    unfold dn at hdn
    split at hdn
    rotate_left
    ·rw [if_neg (by omega)] at hdn;cases hdn
    rename_i i' hi'
    cases hdn
    exact BA hi'
   obtain ⟨p1,p2⟩:=hB.pin j i hσj
   simp [Gh.bk,hdn,p1,p2]
 cases o.dst <;> exact hx
theorem Av {P:Program} {o:Oper} {st:ST} {K:ST->Prop} {fop:Operand} {args:Array Operand} {ts:Array TypeId} {f:FuncId} {ids:List Nat} {R:AV->List Ob->Prop} {A:List AV} (hFC:FC P f A [] R)
  (hd:Vc o st.n=true) (ho:o.op=.call { callee:=.value fop,args:=args,argTypes:=ts }) (hf:st.ev fop=.a (.c (.f f ids))) (hcal:B3 P f=true)
  (hA:(args.toList.map st.ev++F9 ids).map (AV.ren [])=A)
  (hK:∀ r outs,R r outs->K ((st.back [] outs).put o.dst (r.up (Vn [] st.hp.length)))):StpC P o st K True:=by
 have:=HT (K:=K) [] hd ho hf hcal rfl (by simp) (by rw [hA];exact hFC) (fun _ _ _ _ _ _ h=>absurd h (by simp)) hK
 exact fun M0 w0 a w N Q hR hN=>this M0 w0 a w N Q hR fun st' a' w' h1 h2 h3=>hN st' a' w' h1 h2 (fun _=>h3 rfl)
theorem Ax {P:Program} {o:Oper} {st:ST} {K:ST->Prop} {fop:Operand} {args:Array Operand} {ts:Array TypeId} {f:FuncId} {ids:List Nat} {R:AV->List Ob->Prop} {A:List AV} {I:List Ob} (σ:List Nat) (hFC:FC P f A I R)
  (hd:Vc o st.n=true) (ho:o.op=.call { callee:=.value fop,args:=args,argTypes:=ts }) (hf:st.ev fop=.a (.c (.f f ids))) (hcal:B3 P f=true) (hσ:B1 σ=true) (hlt:(σ.all fun i=>decide (i<st.hp.length))=true)
  (hA:(args.toList.map st.ev++F9 ids).map (AV.ren σ)=A) (hI:Vk st.hp σ=I)
  (hs:∀ r outs,R r outs->((outs.take σ.length).all Ob.born)=true)
  (hK:∀ r outs,R r outs->K ((st.back σ outs).put o.dst (r.up (Vn σ st.hp.length)))):Stp P o st K:=by
 refine (HT (K:=K) σ hd ho hf hcal hσ (fun i hi=>by simpa using gAg.1 hlt i hi) (by rw [hA,hI];exact hFC) (fun r outs hr i ob hi hl=>?_) hK).stp
 refine gAg.1 (hs r outs hr) ob ?_
 exact gE9 (i:=i) (by rw [gAF,if_pos hl];exact hi)
end Go.Proofs.YtbnabodoabimnaaGreat
namespace Go.Proofs.YtbnabodoabimnaaGreat
set_option linter.unusedVariables false
set_option linter.unusedSimpArgs false
open Go.RowKit
def Vp:C->C
 | .o k cs=>.t k.1 cs
 | c=>c
theorem Ml {c:C} {k:Nat × Nat} {cs:List Tr}:Vp c ≠ .o k cs:=by cases c <;> simp [Vp]
theorem CI {s:ST} (i:Nat) {r:Row} (hi:s.hp[i]?=some (.r r)):Le s { s with hp:=s.hp.set i (.r { r with cells:=r.cells.map Vp }) }:=by
 rintro M0 w0 a w ⟨g,hpp,hR⟩
 have hlt:i<s.hp.length:=(List.getElem?_eq_some_iff.1 hi).1
 have self:(s.hp.set i (.r { r with cells:=r.cells.map Vp }))[i]?=some (.r { r with cells:=r.cells.map Vp }):=by simp [hlt]
 have other:∀ q,q ≠ i->(s.hp.set i (.r { r with cells:=r.cells.map Vp }))[q]?=s.hp[q]?:=fun q hq=>by rw [gE5 (Ne.symm hq)]
 generalize hh:s.hp.set i (.r { r with cells:=r.cells.map Vp })=hp' at *
 have ncl:∀ j,¬ Lv hp' g (.cl i j):=by
  rintro j ⟨r2,k,cs,e1,e2,_⟩
  rw [self] at e1
  cases e1
  simp only [gAC,gBG] at e2
  obtain ⟨c,_,hc⟩:=e2
  exact Ml hc
 have sub:∀ ℓ,Lv hp' g ℓ->Lv s.hp g ℓ:=by
  intro ℓ hl
  cases ℓ with
  | ob q=>
   by_cases hq:q=i
   ·subst hq
    rcases hl with ⟨r2,e1,e2⟩ | ⟨kv,e1⟩
    ·exact .inl ⟨r,hi,e2⟩
    rw [self] at e1;cases e1
   rcases hl with ⟨r2,e1,e2⟩ | ⟨kv,e1⟩
   ·exact .inl ⟨r2,by rw [<- other q hq];exact e1,e2⟩
   exact .inr ⟨kv,by rw [<- other q hq];exact e1⟩
  | cl q j=>
   by_cases hq:q=i
   ·subst hq;exact absurd hl (ncl j)
   obtain ⟨r2,k,cs,e1,e2,e3⟩:=hl
   exact ⟨r2,k,cs,by rw [<- other q hq];exact e1,e2,e3⟩
 have ow:∀ b,Ow hp' g b->Ow s.hp g b:=fun b ho=>ho.imp (fun h=>h) (fun ⟨ℓ,hl,e⟩=>⟨ℓ,sub ℓ hl,e⟩)
 have hm:Mo g s.hp w g hp' w (fun _=>True):=by
  refine ⟨fun q hq=>⟨?_,rfl,rfl⟩,fun b _ ho=>ow b ho,gBu _,fun _ _ _=>rfl,fun q _ hq r2 j k cs e1 e2=>?_⟩
  ·by_cases e:q=i
   ·subst e;exact ⟨_,self,rfl⟩
   obtain ⟨o,h1,h2⟩:=hq
   exact ⟨o,by rw [other q e];exact h1,h2⟩
  by_cases e:q=i
  rotate_left
  ·exact ⟨r2,by rw [<- other q e];exact e1,e2,fun _=>rfl⟩
  subst e
  rw [self] at e1
  cases e1
  simp only [gAC,gBG] at e2
  obtain ⟨c,_,hc⟩:=e2
  exact absurd hc Ml
 have hr:=hR.hr
 refine ⟨g,⟨by show s.pin<=hp'.length;rw [<- hh];simpa using hpp.1,hpp.2⟩,hR.mo hm ?_ (fun ℓ hl=>hR.new ℓ (sub ℓ hl)) hR.fp⟩
 refine ⟨hr.ml,fun ℓ hl=>hr.md ℓ (sub ℓ hl),fun ℓ ℓ' h1 h2=>hr.inj ℓ ℓ' (sub ℓ h1) (sub ℓ' h2),fun q r2 e1=>?_,fun q kv e1=>?_,hm.gl hr.gl⟩
 rotate_left
 ·by_cases e:q=i
  ·subst e;rw [self] at e1;cases e1
  rw [other q e] at e1
  exact MpR.mo hm e1 (hr.mp q kv e1) rfl
 by_cases e:q=i
 rotate_left
 ·rw [other q e] at e1
  exact RowR.mo hm e1 (hr.row q r2 e1) (fun _=>rfl) (fun _ _ _ _ _=>⟨rfl,rfl⟩)
 subst e
 rw [self] at e1
 cases e1
 rcases hr.row q r hi with ⟨k1,k2⟩ | ⟨k1,k2,arr,k3,k4,k5,k6,k7⟩
 ·exact .inl ⟨k1,by simp [k2]⟩
 refine .inr ⟨k1,fun h1 h2=>k2 h1 (by simpa using h2),arr,k3,by simpa using k4,k5,k6,fun j c hj=>?_⟩
 simp only [gAC,gBG] at hj
 obtain ⟨c0,hc0,rfl⟩:=hj
 obtain ⟨u,u1,u2⟩:=k7 j c0 hc0
 refine ⟨u,u1,?_⟩
 cases c0 with
 | o k cs=>exact EQ (t:=.l k.1 cs) (fun b _ ho=>ow b ho) hr hi ncl sub hc0 (.inl rfl) u2
 | _=>exact CellR.mo hm u2 (fun k cs hc=>by cases hc)

def Gh.ow (g:Gh) (i j b:Nat):Gh:=⟨fun ℓ=>if ℓ=.cl i j then b else g.γ ℓ,g.κ,g.M⟩
theorem Gh.ow_ob (g:Gh) {i j b q:Nat}:(g.ow i j b).γ (.ob q)=g.γ (.ob q):=by simp [Gh.ow]
theorem Gh.ow_self (g:Gh) {i j b:Nat}:(g.ow i j b).γ (.cl i j)=b:=by simp [Gh.ow]
theorem Gh.ow_ne (g:Gh) {i j b:Nat} {ℓ:Loc} (h:ℓ ≠ .cl i j):(g.ow i j b).γ ℓ=g.γ ℓ:=by simp [Gh.ow,h]
theorem AQ {s:ST} (i j id n:Nat) {r ri:Row} {ts:List Tr} (hne:i ≠ id) (hi:s.hp[i]?=some (.r ri)) (hj:ri.cells[j]?=some (.s id n)) (hid:s.hp[id]?=some (.r r)) (hsl:r.sl=true) (hk:0<r.k) (hn:n*r.k=r.cells.length) (hts:Fz r.cells ts):
  Le s { s with tm:=Oh [i] s.tm,hp:=(s.hp.set i (.r { ri with cells:=ri.cells.set j (.o (r.k,r.e) ts) })).set id .d }:=by
 rintro M0 w0 a w ⟨g,hpp,hR⟩
 have hlt:i<s.hp.length:=(List.getElem?_eq_some_iff.1 hi).1
 have hlt2:id<s.hp.length:=(List.getElem?_eq_some_iff.1 hid).1
 have hjlt:j<ri.cells.length:=(List.getElem?_eq_some_iff.1 hj).1
 have dead:((s.hp.set i (.r { ri with cells:=ri.cells.set j (.o (r.k,r.e) ts) })).set id .d)[id]?=some .d:=by simp [hlt2]
 have self:((s.hp.set i (.r { ri with cells:=ri.cells.set j (.o (r.k,r.e) ts) })).set id .d)[i]?=some (.r { ri with cells:=ri.cells.set j (.o (r.k,r.e) ts) }):=by
  rw [gE5 (Ne.symm hne)];simp [hlt]
 have other:∀ q,q ≠ i->q ≠ id->((s.hp.set i (.r { ri with cells:=ri.cells.set j (.o (r.k,r.e) ts) })).set id .d)[q]?=s.hp[q]?:=fun q h1 h2=>by
  rw [gE5 (Ne.symm h2),gE5 (Ne.symm h1)]
 have hlen:((s.hp.set i (.r { ri with cells:=ri.cells.set j (.o (r.k,r.e) ts) })).set id .d).length=s.hp.length:=by simp
 generalize hh:(s.hp.set i (.r { ri with cells:=ri.cells.set j (.o (r.k,r.e) ts) })).set id .d=hp' at *
 have hr:=hR.hr
 obtain ⟨t1,t2⟩:=hts.get
 have src:∀ ℓ,Lv hp' (g.ow i j (g.γ (.ob id))) ℓ->(ℓ=.cl i j/\Lv s.hp g (.ob id)/\ts ≠ [])\/(ℓ ≠ .cl i j/\Lv s.hp g ℓ/\ℓ ≠ .ob id/\∀ q,ℓ ≠ .cl id q):=by
  intro ℓ hl
  cases ℓ with
  | ob q=>
   right
   refine ⟨by simp,?_,?_,by simp⟩
   rotate_left
   ·intro e
    cases e
    rcases hl with ⟨r2,e1,e2⟩ | ⟨kv,e1⟩ <;> (rw [dead] at e1;cases e1)
   by_cases hq:q=i
   ·subst hq
    rcases hl with ⟨r2,e1,e2⟩ | ⟨kv,e1⟩
    ·exact .inl ⟨ri,hi,e2⟩
    rw [self] at e1;cases e1
   by_cases hq2:q=id
   ·subst hq2
    rcases hl with ⟨r2,e1,e2⟩ | ⟨kv,e1⟩ <;> (rw [dead] at e1;cases e1)
   rcases hl with ⟨r2,e1,e2⟩ | ⟨kv,e1⟩
   ·exact .inl ⟨r2,by rw [<- other q hq hq2];exact e1,e2⟩
   exact .inr ⟨kv,by rw [<- other q hq hq2];exact e1⟩
  | cl q q2=>
   obtain ⟨r2,k,cs,e1,e2,e3⟩:=hl
   by_cases hq:q=i
   rotate_left
   ·by_cases hq2:q=id
    ·subst hq2;rw [dead] at e1;cases e1
    exact .inr ⟨by simp [hq],⟨r2,k,cs,by rw [<- other q hq hq2];exact e1,e2,e3⟩,by simp,by simp [hq2]⟩
   subst hq
   rw [self] at e1
   cases e1
   simp only [gAE] at e2
   split at e2
   rotate_left
   ·rename_i e
    exact .inr ⟨by simp [Ne.symm e],⟨ri,k,cs,hi,e2,e3⟩,by simp,by simp [hne]⟩
   rename_i e;subst e
   try rw [if_pos hjlt] at e2
   cases e2
   refine .inl ⟨rfl,.inl ⟨r,hid,fun h0=>?_⟩,e3⟩
   rcases hr.row id r hid with ⟨_,h2⟩ | ⟨h2,_⟩
   ·rw [h2] at t1;exact e3 (gAt (by simpa using t1))
   exact h2 h0
 have ow:∀ b,Ow hp' (g.ow i j (g.γ (.ob id))) b->Ow s.hp g b:=by
  rintro b (ho | ⟨ℓ,hl,e⟩)
  ·exact .inl ho
  rcases src ℓ hl with ⟨rfl,h1,_⟩ | ⟨h0,h1,_⟩
  ·rw [g.ow_self] at e;exact .inr ⟨_,h1,e⟩
  rw [g.ow_ne h0] at e;exact .inr ⟨_,h1,e⟩
 have hm:Mo g s.hp w (g.ow i j (g.γ (.ob id))) hp' w (fun q=>q ∉ [i]):=by
  refine ⟨fun q hq=>⟨?_,g.ow_ob,rfl⟩,fun b _ ho=>ow b ho,gBu _,fun _ _ _=>rfl,fun q hS hq r2 q2 k cs e1 e2=>?_⟩
  rotate_left
  ·have e:q ≠ i:=by simpa using hS
   have e3:q ≠ id:=by rintro rfl;rw [dead] at e1;cases e1
   exact ⟨r2,by rw [<- other q e e3];exact e1,e2,fun _=>rfl⟩
  by_cases e:q=i
  ·subst e;exact ⟨_,self,rfl⟩
  by_cases e2:q=id
  ·subst e2;exact ⟨_,dead,rfl⟩
  obtain ⟨o,h1,h2⟩:=hq
  exact ⟨o,by rw [other q e e2];exact h1,h2⟩
 have ncl:∀ q,¬ Lv hp' (g.ow i j (g.γ (.ob id))) (.cl id q):=by
  rintro q ⟨r2,k,cs,e1,_⟩
  rw [dead] at e1;cases e1
 have hrow':∀ q r2,hp'[q]?=some (.r r2)->RowR (g.ow i j (g.γ (.ob id))) hp' w q r2:=by
  intro q r2 e1
  by_cases e:q=i
  rotate_left
  ·have e2:q ≠ id:=by rintro rfl;rw [dead] at e1;cases e1
   rw [other q e e2] at e1
   exact RowR.mo hm e1 (hr.row q r2 e1) (fun _=>rfl) (fun q2 _ _ _ _=>⟨g.ow_ne (by simp [e]),rfl⟩)
  subst e
  rw [self] at e1
  cases e1
  rcases hr.row q ri hi with ⟨k1,k2⟩ | ⟨k1,k2,arr,k3,k4,k5,k6,k7⟩
  ·rw [k2] at hjlt;simp at hjlt
  refine .inr ⟨k1,fun _ h2=>?_,arr,by rw [g.ow_ob];exact k3,by simpa using k4,k5,k6,fun q2 c hc=>?_⟩
  ·have:=congrArg List.length h2
   simp at this;rw [this] at hjlt;simp at hjlt
  simp only [gAE] at hc
  split at hc
  rotate_left
  ·rename_i e
   obtain ⟨u,u1,u2⟩:=k7 q2 c hc
   exact ⟨u,u1,CellR.mo hm u2 (fun k cs _ _=>⟨g.ow_ne (by simp [Ne.symm e]),rfl⟩)⟩
  rename_i e;subst e
  try rw [if_pos hjlt] at hc
  cases hc
  obtain ⟨u,u1,u2⟩:=k7 j _ hj
  refine ⟨u,u1,?_⟩
  obtain ⟨b1,b2,A,b3,b4,b5⟩:=(show CR g s.hp w (.s id n) u from u2)
  rcases hr.row id r hid with ⟨h0,h2⟩ | ⟨h0,h2,arr2,ha,hl,hs,hmx,hcells⟩
  ·have:ts=[]:=gAt (by rw [t1,h2];rfl)
   refine .inl ⟨this,A,?_,b5⟩
   rw [b3,h0,show n=0 from by omega]
  have hcne:=h2 hsl
  have htne:ts ≠ []:=fun e=>hcne (gAt (by rw [<- t1,e];rfl))
  refine .inr ⟨htne,n,g.κ id,arr2,by rw [b3,b4 h0,g.ow_self],by rw [t1];exact hn.symm,b2,hmx,by rw [g.ow_self];exact ha,hs,fun q3 t ht=>?_⟩
  obtain ⟨c,c1,c2⟩:=t2 q3 t ht
  obtain ⟨v,v1,v2⟩:=hcells q3 c c1
  refine ⟨v,v1,?_⟩
  rcases c2 with c2 | ⟨rfl,k,rfl⟩
  rotate_left
  ·cases (show v=_ from v2);exact .e _ _ _
  cases c with
  | v x=>
   simp only [C.tr] at c2
   split at c2
   ·cases c2;cases (show v=x from v2);exact .v _ ‹_›
   cases c2
  | t k cs=>cases c2;exact hm.rd (show Rd _ _ _ _ from v2)
  | o k cs=>
   cases c2
   rcases v2 with ⟨h1,A,h2,_⟩ | ⟨h1,n',cp,arr',h2,h3,h4,h5,h6,h7,h8⟩
   ·rw [h1,h2];exact .e _ _ _
   rw [h2]
   have hn0:0<n':=by
    rcases gBs n' with h0 | h0
    ·rw [h0] at h3;simp at h3;exact absurd h3 h1
    exact h0
   have hlv:Lv s.hp g (.cl id q3):=⟨r,k,cs,hid,c1,h1⟩
   refine .l k.1 cs _ 0 n' cp (fun i=>(arr'[i]?).getD undef) h3 hn0 h4 (fun ho=>?_) (Array.getElem?_eq_some_iff.1 h6).1 (fun i t hi=>?_) (fun i t hi=>?_)
   rotate_left
   ·obtain ⟨u,f1,f2⟩:=h8 i t hi
    rw [gBD,cell_of_row _ _ _ _ _ _ h6,f1];rfl
   ·obtain ⟨u,f1,f2⟩:=h8 i t hi
    rw [f1];exact hm.rd f2
   rcases ho with ho | ⟨ℓ,hl,e⟩
   ·exact hr.md _ hlv ho
   rcases src ℓ hl with ⟨rfl,s1,_⟩ | ⟨s0,s1,s2,s3⟩
   rotate_left
   ·rw [g.ow_ne s0] at e
    exact s3 _ (hr.inj _ _ s1 hlv e)
   rw [g.ow_self] at e
   have:=hr.inj _ _ s1 hlv e;cases this
  | u=>cases c2
  | s _ _=>cases c2
  | p _ _=>cases c2
  | q _ _=>cases c2
  | b _ _ _=>cases c2
  | m _=>cases c2
  | w _ _ _ _=>cases c2
  | f _ _=>cases c2
  | it _ _ _ _=>cases c2
 have hHR:HR (g.ow i j (g.γ (.ob id))) hp' w:=by
  refine ⟨hr.ml,fun ℓ hl=>?_,fun ℓ ℓ' h1 h2 he=>?_,hrow',fun q kv e1=>?_,hm.gl hr.gl⟩
  rotate_left 2
  ·have e:q ≠ i:=by rintro rfl;rw [self] at e1;cases e1
   have e2:q ≠ id:=by rintro rfl;rw [dead] at e1;cases e1
   rw [other q e e2] at e1
   exact MpR.mo hm e1 (hr.mp q kv e1) rfl
  ·rcases src ℓ hl with ⟨rfl,s1,_⟩ | ⟨s0,s1,_⟩
   ·rw [g.ow_self];exact hr.md _ s1
   rw [g.ow_ne s0];exact hr.md _ s1
  rcases src ℓ h1 with ⟨rfl,s1,_⟩ | ⟨s0,s1,s2,_⟩
  ·rcases src ℓ' h2 with ⟨rfl,_⟩ | ⟨q0,q1,q2,_⟩
   ·rfl
   rw [g.ow_self,g.ow_ne q0] at he
   exact absurd (hr.inj _ _ s1 q1 he).symm q2
  rcases src ℓ' h2 with ⟨rfl,q1,_⟩ | ⟨q0,q1,q2,_⟩
  rotate_left
  ·rw [g.ow_ne s0,g.ow_ne q0] at he
   exact hr.inj _ _ s1 q1 he
  rw [g.ow_self,g.ow_ne s0] at he
  exact absurd (hr.inj _ _ s1 q1 he) s2
 refine ⟨g.ow i j (g.γ (.ob id)),⟨by show s.pin<=hp'.length;rw [hlen];exact hpp.1,hpp.2.trans ⟨rfl,fun q _=>⟨g.ow_ob,rfl⟩⟩⟩,hHR,fun ℓ hl=>?_,fun d=>?_,hR.n,hR.df,hR.fp⟩
 ·rcases src ℓ hl with ⟨rfl,s1,_⟩ | ⟨s0,s1,_⟩
  ·rw [g.ow_self];exact hR.new _ s1
  rw [g.ow_ne s0];exact hR.new _ s1
 have e:Ek (Oh [i] s.tm) d=(Ek s.tm d).nb [i]:=Em _ rfl s.tm d
 show AVR _ (Ek (Oh [i] s.tm) d) _
 rw [e]
 exact AVR.nb (fun c y hc=>C.nb_ok hm hc) (hR.tm d)
end Go.Proofs.YtbnabodoabimnaaGreat
