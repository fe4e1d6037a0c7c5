/- Lemmas. -/
import Derived.Test.YtbnabodoabimnaaGreatMA
namespace Go.Proofs.YtbnabodoabimnaaGreat
set_option linter.unusedVariables false
set_option linter.unusedSimpArgs false
open Go.RowKit
def C.fresh:C->Bool
 | .b _ _ _=>false
 | .o _ []=>true
 | .o _ _=>false
 | _=>true
def Gr (g:Gh) (hp:List Ob) (w:World) (c:C) (y:Value):Prop:=c.fresh=true/\(CR g hp w c y\/∃ k,c=.o k []/\y=.slice none 0 0)
section
variable {g g' : Gh} {hp hp' : List Ob} {w w' : World} {S : Nat -> Prop}
theorem Cp (h:Mo g hp w g' hp' w' S) {id j:Nat} {c:C} {y:Value} (hf:Gr g hp w c y):CellR g' hp' w' id j c y:=by
 obtain ⟨h0,h1 | ⟨k,rfl,rfl⟩⟩:=hf
 rotate_left
 ·exact .inl ⟨rfl,none,rfl,by simp⟩
 cases c with
 | b _ _ _=>cases h0
 | o k cs=>exact h1.elim
 | u=>trivial
 | v x=>exact CR.mo h (c:=.v x) trivial h1
 | t k cs=>exact CR.mo h (c:=.t k cs) trivial h1
 | s id n=>exact CR.mo h (c:=.s id n) trivial h1
 | p id off=>exact CR.mo h (c:=.p id off) trivial h1
 | q cs off=>exact CR.mo h (c:=.q cs off) trivial h1
 | m id=>exact CR.mo h (c:=.m id) trivial h1
 | w id off n k=>exact CR.mo h (c:=.w id off n k) trivial h1
 | f fn ids=>exact CR.mo h (c:=.f fn ids) trivial h1
 | it _ _ _ _=>exact h1.elim
def Gh.at (g:Gh) (id b c:Nat):Gh:=⟨fun ℓ=>if ℓ=.ob id then b else g.γ ℓ,fun i=>if i=id then c else g.κ i,g.M⟩
theorem Gh.at_ne (g:Gh) {id i b c:Nat} (h:i ≠ id):(g.at id b c).γ (.ob i)=g.γ (.ob i)/\(g.at id b c).κ i=g.κ i:=by
 unfold Gh.at;simp [h]
theorem Gh.at_cl (g:Gh) {id i j b c:Nat}:(g.at id b c).γ (.cl i j)=g.γ (.cl i j):=by
 unfold Gh.at;simp
theorem Gh.at_self (g:Gh) {id b c:Nat}:(g.at id b c).γ (.ob id)=b/\(g.at id b c).κ id=c:=by
 unfold Gh.at;simp
theorem Dr {g:Gh} {n id b c:Nat} (h:n<=id):Ext n g (g.at id b c):=⟨rfl,fun i hi=>g.at_ne (by omega)⟩
theorem Fh (hr:HR g hp w) {id b c:Nat} {ob:Ob} (hid:¬ Bn hp id) (hne:∀ i,i ≠ id->hp'[i]?=hp[i]?) (h1:hp'[id]?=some ob) (hb:c ≠ 0\/(∃ kv,ob=.m kv)->w.heap.size<=b)
  (hobm:∀ r,ob=.r r->∀ (j:Nat) (k:Nat × Nat) (cs:List Tr),r.cells[j]?=some (.o k cs)->cs=[])
  (hz:w.heap.size<=w'.heap.size) (hfx:∀ k,k<w.heap.size->w'.heap[k]?=w.heap[k]?):Mo g hp w (g.at id b c) hp' w' (fun _=>True):=by
 refine ⟨fun i hi=>?_,fun k hk ho=>?_,hz,fun k hk _=>hfx k hk,fun i _ hi r' j k cs hr' hc'=>?_⟩
 rotate_left 2
 ·have hi':i ≠ id:=fun e=>hid (e ▸ hi)
  rw [hne i hi'] at hr'
  exact ⟨r',hr',hc',fun hlt=>World.cell?_of_block (hfx _ hlt)⟩
 ·have hi':i ≠ id:=fun e=>hid (e ▸ hi)
  obtain ⟨o,e1,e2⟩:=hi
  exact ⟨⟨o,by rw [hne i hi'];exact e1,e2⟩,g.at_ne hi'⟩
 rcases ho with ho | ⟨ℓ,hl,rfl⟩
 ·exact .inl ho
 right
 cases ℓ with
 | ob i=>
  by_cases hi:i=id
  ·subst hi
   rw [g.at_self.1] at hk
   exfalso
   have:=hb (by
    rcases hl with ⟨r,e1,e2⟩ | ⟨kv,e1⟩
    ·left;rwa [g.at_self.2] at e2
    ·right;rw [h1] at e1;exact ⟨kv,Option.some.inj e1⟩)
   omega
  refine ⟨.ob i,?_,(g.at_ne hi).1.symm⟩
  rcases hl with ⟨r,e1,e2⟩ | ⟨kv,e1⟩
  ·exact .inl ⟨r,by rw [<- hne i hi];exact e1,by rwa [(g.at_ne hi).2] at e2⟩
  exact .inr ⟨kv,by rw [<- hne i hi];exact e1⟩
 | cl i j=>
  obtain ⟨r,k,cs,e1,e2,e3⟩:=hl
  by_cases hi:i=id
  rotate_left
  ·exact ⟨.cl i j,⟨r,k,cs,by rw [<- hne i hi];exact e1,e2,e3⟩,by rw [g.at_cl]⟩
  subst hi
  rw [h1] at e1
  exact absurd (hobm r (Option.some.inj e1) j k cs e2) e3
theorem GM (hr:HR g hp w) {id b c:Nat} {ob:Ob} (hid:¬ Bn hp id) (hne:∀ i,i ≠ id->hp'[i]?=hp[i]?) (h1:hp'[id]?=some ob) (hb:c ≠ 0\/(∃ kv,ob=.m kv)->w.heap.size<=b)
  (hobm:∀ r,ob=.r r->∀ (j:Nat) (k:Nat × Nat) (cs:List Tr),r.cells[j]?=some (.o k cs)->cs=[])
  (hz:w.heap.size<=w'.heap.size) (hfx:∀ k,k<w.heap.size->w'.heap[k]?=w.heap[k]?)
  (hrow:∀ r,ob=.r r->RowR (g.at id b c) hp' w' id r) (hmap:∀ kv,ob=.m kv->MpR (g.at id b c) hp' w' id kv):HR (g.at id b c) hp' w':=by
 have hm:=Fh hr hid hne h1 hb hobm hz hfx
 have old:∀ ℓ,Lv hp' (g.at id b c) ℓ->ℓ ≠ .ob id->Lv hp g ℓ/\(g.at id b c).γ ℓ=g.γ ℓ:=by
  intro ℓ hl hn
  cases ℓ with
  | ob i=>
   have hi:i ≠ id:=fun e=>hn (by rw [e])
   refine ⟨?_,(g.at_ne hi).1⟩
   rcases hl with ⟨r,e1,e2⟩ | ⟨kv,e1⟩
   ·exact .inl ⟨r,by rw [<- hne i hi];exact e1,by rwa [(g.at_ne hi).2] at e2⟩
   exact .inr ⟨kv,by rw [<- hne i hi];exact e1⟩
  | cl i j=>
   obtain ⟨r,k,cs,e1,e2,e3⟩:=hl
   by_cases hi:i=id
   rotate_left
   ·exact ⟨⟨r,k,cs,by rw [<- hne i hi];exact e1,e2,e3⟩,g.at_cl⟩
   subst hi
   rw [h1] at e1
   exact absurd (hobm r (Option.some.inj e1) j k cs e2) e3
 have newb:Lv hp' (g.at id b c) (.ob id)->w.heap.size<=b:=by
  intro hl
  refine hb ?_
  rcases hl with ⟨r,e1,e2⟩ | ⟨kv,e1⟩
  ·left;rwa [g.at_self.2] at e2
  right;rw [h1] at e1;exact ⟨kv,Option.some.inj e1⟩
 refine ⟨fun q hq=>gBw (hr.ml q hq) hz,fun ℓ hl hM=>?_,fun ℓ ℓ' hl hl' he=>?_,fun i r hi=>?_,fun i kv hi=>?_,hm.gl hr.gl⟩
 rotate_left 2
 ·by_cases e:i=id
  ·subst e
   rw [h1] at hi
   exact hrow r (Option.some.inj hi)
  rw [hne i e] at hi
  refine RowR.mo hm hi (hr.row i r hi) (fun hk=>hfx _ (hr.lt (ℓ:=.ob i) (.inl ⟨r,hi,hk⟩))) (fun j k cs hc hn=>⟨g.at_cl,hfx _ (hr.lt (ℓ:=.cl i j) ⟨r,k,cs,hi,hc,hn⟩)⟩)
 ·by_cases e:i=id
  ·subst e
   rw [h1] at hi
   exact hmap kv (Option.some.inj hi)
  rw [hne i e] at hi
  exact MpR.mo hm hi (hr.mp i kv hi) (hfx _ (hr.lt (ℓ:=.ob i) (.inr ⟨kv,hi⟩)))
 ·by_cases e:ℓ=.ob id
  rotate_left
  ·obtain ⟨o1,o2⟩:=old ℓ hl e
   rw [o2] at hM
   exact hr.md ℓ o1 hM
  subst e
  rw [g.at_self.1] at hM
  have:=hr.ml _ hM
  have:=newb hl
  omega
 by_cases e:ℓ=.ob id
 ·by_cases e':ℓ'=.ob id
  ·rw [e,e']
  obtain ⟨o1,o2⟩:=old ℓ' hl' e'
  rw [o2,e,g.at_self.1] at he
  have:=hr.lt o1
  have:=newb (e ▸ hl)
  omega
 obtain ⟨o1,o2⟩:=old ℓ hl e
 by_cases e':ℓ'=.ob id
 rotate_left
 ·obtain ⟨p1,p2⟩:=old ℓ' hl' e'
  rw [o2,p2] at he
  exact hr.inj _ _ o1 p1 he
 rw [o2,e',g.at_self.1] at he
 have:=hr.lt o1
 have:=newb (e' ▸ hl')
 omega
theorem FF {M0:Nat->Prop} {n0:Nat} (hn:∀ ℓ,Lv hp g ℓ->M0 (g.γ ℓ)\/n0<=g.γ ℓ) {id b c:Nat} {ob:Ob} (hne:∀ i,i ≠ id->hp'[i]?=hp[i]?) (h1:hp'[id]?=some ob) (hb:c ≠ 0\/(∃ kv,ob=.m kv)->n0<=b)
  (hobm:∀ r,ob=.r r->∀ (j:Nat) (k:Nat × Nat) (cs:List Tr),r.cells[j]?=some (.o k cs)->cs=[]):∀ ℓ,Lv hp' (g.at id b c) ℓ->M0 ((g.at id b c).γ ℓ)\/n0<=(g.at id b c).γ ℓ:=by
 intro ℓ hl
 cases ℓ with
 | ob i=>
  by_cases hi:i=id
  ·subst hi
   rw [g.at_self.1]
   refine .inr (hb ?_)
   rcases hl with ⟨r,e1,e2⟩ | ⟨kv,e1⟩
   ·left;rwa [g.at_self.2] at e2
   right;rw [h1] at e1;exact ⟨kv,Option.some.inj e1⟩
  rw [(g.at_ne hi).1]
  refine hn _ ?_
  rcases hl with ⟨r,e1,e2⟩ | ⟨kv,e1⟩
  ·exact .inl ⟨r,by rw [<- hne i hi];exact e1,by rwa [(g.at_ne hi).2] at e2⟩
  exact .inr ⟨kv,by rw [<- hne i hi];exact e1⟩
 | cl i j=>
  obtain ⟨r,k,cs,e1,e2,e3⟩:=hl
  by_cases hi:i=id
  rotate_left
  ·rw [g.at_cl]
   exact hn _ ⟨r,k,cs,by rw [<- hne i hi];exact e1,e2,e3⟩
  subst hi
  rw [h1] at e1
  exact absurd (hobm r (Option.some.inj e1) j k cs e2) e3
end

theorem RelG.birthG {g:Gh} {M0:Nat->Prop} {w0 w w':World} {st:ST} {a:Act} {hp':List Ob} (h:RelG g M0 w0 st a w) {id c b:Nat} {r:Row} {arr:Array Value}
  (hid:¬ Bn st.hp id) (hne:∀ i,i ≠ id->hp'[i]?=st.hp[i]?) (h1:hp'[id]?=some (.r r)) (hc:c ≠ 0) (hsl:r.sl=true->r.cells ≠ []) (hcm:c<=9223372036854775807) (hlen:r.cells.length<=arr.size) (hus:arr.size=c*r.k)
  (hcell:∀ (j:Nat) (x:C),r.cells[j]?=some x->∃ u,arr[j]?=some u/\Gr g st.hp w x u) (hw:Fp (fun _=>False) w w') (hb:w.heap.size<=b) (hnew:w'.heap[b]?=some (.cells arr r.e (0,0))):
  RelG (g.at id b c) M0 w0 { st with hp:=hp' } a w':=by
 have hz:=hw.size
 have hfx:∀ k,k<w.heap.size->w'.heap[k]?=w.heap[k]?:=fun k hk=>hw.block k hk (fun h=>h)
 have hobm:∀ r',Ob.r r=.r r'->∀ (j:Nat) (k:Nat × Nat) (cs:List Tr),r'.cells[j]?=some (.o k cs)->cs=[]:=by
  intro r' e j k cs hj
  cases e
  obtain ⟨u,_,hf,_⟩:=hcell j _ hj
  cases cs with
  | nil=>rfl
  | cons=>simp [C.fresh] at hf
 have hm:=Fh (w':=w') h.hr (b:=b) (c:=c) hid hne h1 (fun _=>hb) hobm hz hfx
 refine h.mo hm (GM h.hr hid hne h1 (fun _=>hb) hobm hz hfx ?_ (fun kv e=>by cases e)) (FF h.new hne h1 (fun _=>gBv h.fp.size hb) hobm) (h.fp.trans (hw.mono (fun _ _ h=>h.elim)))
 intro r' e
 cases e
 refine .inr ⟨by rw [g.at_self.2];exact hc,hsl,arr,by rw [g.at_self.1];exact hnew,hlen,by rw [g.at_self.2];exact hus,by rw [g.at_self.2];exact hcm,fun j x hj=>?_⟩
 obtain ⟨u,e1,e2⟩:=hcell j x hj
 exact ⟨u,e1,Cp hm e2⟩
theorem RelG.birth {g:Gh} {M0:Nat->Prop} {w0 w:World} {st:ST} {a:Act} {hp':List Ob} (h:RelG g M0 w0 st a w) {id c:Nat} {r:Row} {us:List Value}
  (hid:¬ Bn st.hp id) (hne:∀ i,i ≠ id->hp'[i]?=st.hp[i]?) (h1:hp'[id]?=some (.r r)) (hc:c ≠ 0) (hsl:r.sl=true->r.cells ≠ []) (hcm:c<=9223372036854775807) (hlen:r.cells.length<=us.length) (hus:us.length=c*r.k)
  (hcell:∀ (j:Nat) (x:C),r.cells[j]?=some x->∃ u,us[j]?=some u/\Gr g st.hp w x u):
  RelG (g.at id w.heap.size c) M0 w0 { st with hp:=hp' } a (w.alloc (.cells us.toArray r.e)):=
 h.birthG hid hne h1 hc hsl hcm (by simpa using hlen) (by simpa using hus) (fun j x hj=>by obtain ⟨u,e1,e2⟩:=hcell j x hj;exact ⟨u,by simpa using e1,e2⟩) (Fp.alloc _ _ _) (gBu _) (heap_alloc_new w _)
theorem RelG.birth0 {g:Gh} {M0:Nat->Prop} {w0 w w':World} {st:ST} {a:Act} {hp':List Ob} (h:RelG g M0 w0 st a w) {id:Nat} {r:Row}
  (hid:¬ Bn st.hp id) (hne:∀ i,i ≠ id->hp'[i]?=st.hp[i]?) (h1:hp'[id]?=some (.r r)) (hn:r.cells=[]) (hw:Fp (fun _=>False) w w'):
  RelG (g.at id w.heap.size 0) M0 w0 { st with hp:=hp' } a w':=by
 have hobm:∀ r',Ob.r r=.r r'->∀ (j:Nat) (k:Nat × Nat) (cs:List Tr),r'.cells[j]?=some (.o k cs)->cs=[]:=by
  intro r' e j k cs hj
  cases e
  rw [hn] at hj;simp at hj
 have hfx:∀ k,k<w.heap.size->w'.heap[k]?=w.heap[k]?:=fun k hk=>hw.block k hk (fun h=>h)
 have hm:=Fh (w':=w') h.hr (b:=w.heap.size) (c:=0) hid hne h1 (fun _=>gBu _) hobm hw.size hfx
 refine h.mo hm (GM h.hr hid hne h1 (fun _=>gBu _) hobm hw.size hfx ?_ (fun kv e=>by cases e)) (FF h.new hne h1 (fun _=>h.fp.size) hobm) (h.fp.trans (hw.mono (fun _ _ h=>h.elim)))
 intro r' e
 cases e
 exact .inl ⟨g.at_self.2,hn⟩
theorem RelG.birthM {g:Gh} {M0:Nat->Prop} {w0 w:World} {st:ST} {a:Act} {hp':List Ob} (h:RelG g M0 w0 st a w) {id:Nat}
  (hid:¬ Bn st.hp id) (hne:∀ i,i ≠ id->hp'[i]?=st.hp[i]?) (h1:hp'[id]?=some (.m [])):
  RelG (g.at id w.heap.size 0) M0 w0 { st with hp:=hp' } a (w.alloc (.map #[] 0)):=by
 have hobm:∀ r',Ob.m []=.r r'->∀ (j:Nat) (k:Nat × Nat) (cs:List Tr),r'.cells[j]?=some (.o k cs)->cs=[]:=by
  intro r' e;cases e
 have hfx:∀ k,k<w.heap.size->(w.alloc (.map #[] 0)).heap[k]?=w.heap[k]?:=fun k hk=>Below.heap_alloc _ _ _ hk
 have hz:w.heap.size<=(w.alloc (.map #[] 0)).heap.size:=by simp
 have hm:=Fh (w':=w.alloc (.map #[] 0)) h.hr (b:=w.heap.size) (c:=0) hid hne h1 (fun _=>gBu _) hobm hz hfx
 refine h.mo hm (GM h.hr hid hne h1 (fun _=>gBu _) hobm hz hfx (fun r' e=>by cases e) ?_) (FF h.new hne h1 (fun _=>h.fp.size) hobm) (h.fp.trans (Fp.alloc _ _ _))
 intro kv e
 cases e
 exact .inr ⟨#[],0,by rw [g.at_self.1];exact heap_alloc_new w _,rfl,fun i p hp=>by simp at hp,rfl,fun i e he=>by simp at he⟩
end Go.Proofs.YtbnabodoabimnaaGreat
namespace Go.Proofs.YtbnabodoabimnaaGreat
set_option linter.unusedVariables false
set_option linter.unusedSimpArgs false
open Go.RowKit
section
variable {g g' : Gh} {hp hp' : List Ob} {w w' : World} {S : Nat -> Prop}
theorem Lv.sub (hd:∀ (i:Nat) (r:Row),hp'[i]?=some (.r r)->hp[i]?=some (.r r)) (hdm:∀ (i:Nat) (kv:List (Value × C)),hp'[i]?=some (.m kv)->hp[i]?=some (.m kv)) {ℓ:Loc} (h:Lv hp' g ℓ):Lv hp g ℓ:=by
 cases ℓ with
 | ob i=>
  rcases h with ⟨r,e1,e2⟩ | ⟨kv,e1⟩
  ·exact .inl ⟨r,hd _ _ e1,e2⟩
  exact .inr ⟨kv,hdm _ _ e1⟩
 | cl i j=>
  obtain ⟨r,k,cs,e1,e2⟩:=h
  exact ⟨r,k,cs,hd _ _ e1,e2⟩
theorem Eb (hb:∀ i,Bn hp i->Bn hp' i) (hd:∀ (i:Nat) (r:Row),hp'[i]?=some (.r r)->hp[i]?=some (.r r)) (hdm:∀ (i:Nat) (kv:List (Value × C)),hp'[i]?=some (.m kv)->hp[i]?=some (.m kv)):Mo g hp w g hp' w (fun _=>True):=
 ⟨fun i hi=>⟨hb i hi,rfl,rfl⟩,fun b _ ho=>Or.imp (fun h=>h) (fun ⟨ℓ,hl,e⟩=>⟨ℓ,Lv.sub hd hdm hl,e⟩) ho,gBu _,fun _ _ _=>rfl,fun i _ _ r' j k cs e1 e2=>⟨r',hd _ _ e1,e2,fun _=>rfl⟩⟩
theorem QF (hr : HR g hp w) (hb : ∀ i, Bn hp i -> Bn hp' i) (hd : ∀ (i : Nat) (r : Row), hp'[i]? = some (.r r) -> hp[i]? = some (.r r)) (hdm : ∀ (i : Nat) (kv : List (Value × C)), hp'[i]? = some (.m kv) -> hp[i]? = some (.m kv)) : HR g hp' w :=
 ⟨hr.ml, fun ℓ hl => hr.md ℓ (Lv.sub hd hdm hl), fun ℓ ℓ' h h' e => hr.inj _ _ (Lv.sub hd hdm h) (Lv.sub hd hdm h') e, fun i r e => RowR.mo (Eb hb hd hdm) (hd i r e) (hr.row i r (hd i r e)) (fun _ => rfl) (fun _ _ _ _ _ => ⟨rfl, rfl⟩),
  fun i kv e => MpR.mo (Eb hb hd hdm) (hdm i kv e) (hr.mp i kv (hdm i kv e)) rfl, (Eb hb hd hdm).gl hr.gl⟩
theorem RelG.kill {M0:Nat->Prop} {w0:World} {st:ST} {a:Act} (h:RelG g M0 w0 st a w) (hb:∀ i,Bn st.hp i->Bn hp' i) (hd:∀ (i:Nat) (r:Row),hp'[i]?=some (.r r)->st.hp[i]?=some (.r r)) (hdm:∀ (i:Nat) (kv:List (Value × C)),hp'[i]?=some (.m kv)->st.hp[i]?=some (.m kv)):
 RelG g M0 w0 { st with hp:=hp' } a w:=h.mo (Eb hb hd hdm) (QF h.hr hb hd hdm) (fun ℓ hl=>h.new ℓ (Lv.sub hd hdm hl)) h.fp

theorem JH {arr:Array Value} {e:TypeId} {b:Nat} (hb:w.heap[b]?=some (.cells arr e (0,0))) (off:Nat) (u:Value):(w.setCell ⟨b,off,none⟩ u).heap[b]?=some (.cells (arr.setIfInBounds off u) e (0,0)):=by
 simp [World.setCell,Array.getElem?_modify,hb]
theorem GN (hr:HR g hp w) {id off:Nat} {r:Row} {c:C} {u:Value} (hrow:hp[id]?=some (.r r)) (hk:g.κ id ≠ 0) (hc:c.one=true) (hne:∀ i,i ≠ id->hp'[i]?=hp[i]?) (h1:hp'[id]?=some (.r { r with cells:=r.cells.set off c })):
  Mo g hp w g hp' (w.setCell ⟨g.γ (.ob id),off,none⟩ u) (fun _=>True):=by
 have hset:∀ {r':Row} {j:Nat} {k:Nat × Nat} {cs:List Tr},some (Ob.r { r with cells:=r.cells.set off c })=some (.r r')->r'.cells[j]?=some (.o k cs)->j ≠ off/\r.cells[j]?=some (.o k cs):=by
  intro r' j k cs e hj
  cases e
  rw [gAE] at hj
  split at hj
  ·split at hj
   ·cases hj;cases hc
   cases hj
  rename_i hne'
  exact ⟨fun e=>hne' e.symm,hj⟩
 refine ⟨fun i hi=>⟨?_,rfl,rfl⟩,fun b _ ho=>ho.elim .inl (fun ⟨ℓ,hl,e⟩=>.inr ⟨ℓ,?_,e⟩),by simp [World.setCell],fun b hb ho=>Below.heap_setCell _ _ _ _ (fun e=>ho (.inr ⟨.ob id,.inl ⟨r,hrow,hk⟩,e.symm⟩)),fun i _ hi r' j k cs e1 e2=>?_⟩
 ·by_cases e:i=id
  ·subst e;exact ⟨_,h1,rfl⟩
  obtain ⟨o,e1,e2⟩:=hi
  exact ⟨o,by rw [hne i e];exact e1,e2⟩
 ·cases ℓ with
  | ob i=>
   by_cases e:i=id
   ·subst e
    rcases hl with ⟨r',e1,e2⟩ | ⟨kv,e1⟩
    ·exact .inl ⟨r,hrow,e2⟩
    rw [h1] at e1;cases e1
   rcases hl with ⟨r',e1,e2⟩ | ⟨kv,e1⟩
   ·exact .inl ⟨r',by rw [<- hne i e];exact e1,e2⟩
   exact .inr ⟨kv,by rw [<- hne i e];exact e1⟩
  | cl i j=>
   obtain ⟨r',k,cs,e1,e2,e3⟩:=hl
   by_cases e:i=id
   rotate_left
   ·exact ⟨r',k,cs,by rw [<- hne i e];exact e1,e2,e3⟩
   subst e
   rw [h1] at e1
   exact ⟨r,k,cs,hrow,(hset e1 e2).2,e3⟩
 by_cases e:i=id
 ·subst e
  rw [h1] at e1
  obtain ⟨f1,f2⟩:=hset e1 e2
  refine ⟨r,hrow,f2,fun _=>?_⟩
  rcases hr.row i r hrow with ⟨h0,_⟩ | ⟨_,_,arr,ha,_⟩
  ·exact absurd h0 hk
  rw [cell_of_row _ _ j _ _ _ (JH ha off u),cell_of_row _ _ j _ _ _ ha]
  simp [Array.getElem?_setIfInBounds,Ne.symm f1]
 rw [hne i e] at e1
 refine ⟨r',e1,e2,fun _=>?_⟩
 by_cases h0:g.κ i=0
 rotate_left
 ·exact World.cell?_of_block (Below.heap_setCell _ _ _ _ (fun he=>e (by have:=hr.inj (.ob i) (.ob id) (.inl ⟨r',e1,h0⟩) (.inl ⟨r,hrow,hk⟩) he;injection this)))
 exfalso
 rcases hr.row i r' e1 with ⟨_,h2⟩ | ⟨h2,_⟩
 ·rw [h2] at e2;simp at e2
 exact h2 h0
theorem F7 {id j:Nat} {c:C} {u:Value} (hc:c.one=true) (h:CR g hp w c u):CellR g hp w id j c u:=by
 cases c <;> first | exact h | cases hc
theorem Ou (hr:HR g hp w) {id off:Nat} {r:Row} {c:C} {u:Value} (hrow:hp[id]?=some (.r r)) (hk:g.κ id ≠ 0) (hc:c.one=true) (hcr:CR g hp w c u) (hoff:off<r.cells.length)
  (hne:∀ i,i ≠ id->hp'[i]?=hp[i]?) (h1:hp'[id]?=some (.r { r with cells:=r.cells.set off c })):HR g hp' (w.setCell ⟨g.γ (.ob id),off,none⟩ u):=by
 have hm:=GN (u:=u) (w:=w) hr hrow hk hc hne h1
 have hlid:Lv hp g (.ob id):=.inl ⟨r,hrow,hk⟩
 have hsub:∀ ℓ,Lv hp' g ℓ->Lv hp g ℓ:=by
  intro ℓ hl
  cases ℓ with
  | ob i=>
   by_cases e:i=id
   ·subst e;exact hlid
   rcases hl with ⟨r',e1,e2⟩ | ⟨kv,e1⟩
   ·exact .inl ⟨r',by rw [<- hne i e];exact e1,e2⟩
   exact .inr ⟨kv,by rw [<- hne i e];exact e1⟩
  | cl i j=>
   obtain ⟨r',k,cs,e1,e2,e3⟩:=hl
   by_cases e:i=id
   rotate_left
   ·exact ⟨r',k,cs,by rw [<- hne i e];exact e1,e2,e3⟩
   subst e
   rw [h1] at e1
   cases e1
   rw [gAE] at e2
   split at e2
   ·(try split at e2) <;> first | (cases e2;cases hc;done) | cases e2
   exact ⟨r,k,cs,hrow,e2,e3⟩
 have far:∀ ℓ,Lv hp g ℓ->ℓ ≠ .ob id->(w.setCell ⟨g.γ (.ob id),off,none⟩ u).heap[g.γ ℓ]?=w.heap[g.γ ℓ]?:=fun ℓ hl hn=>Below.heap_setCell _ _ _ _ (fun he=>hn (hr.inj _ _ hl hlid he))
 refine ⟨fun q hq=>by simpa [World.setCell] using hr.ml q hq,fun ℓ hl=>hr.md ℓ (hsub ℓ hl),fun ℓ ℓ' h h' e=>hr.inj _ _ (hsub _ h) (hsub _ h') e,fun i r' e1=>?_,fun i kv e1=>?_,hm.gl hr.gl⟩
 rotate_left
 ·have e:i ≠ id:=by
   rintro rfl
   rw [h1] at e1;cases e1
  rw [hne i e] at e1
  exact MpR.mo hm e1 (hr.mp i kv e1) (far _ (.inr ⟨kv,e1⟩) (by simpa using e))
 by_cases e:i=id
 rotate_left
 ·rw [hne i e] at e1
  exact RowR.mo hm e1 (hr.row i r' e1) (fun h0=>far _ (.inl ⟨r',e1,h0⟩) (by simpa using e)) (fun j k cs hj hn=>⟨rfl,far _ ⟨r',k,cs,e1,hj,hn⟩ (by simp)⟩)
 subst e
 rw [h1] at e1
 cases e1
 rcases hr.row i r hrow with ⟨h0,_⟩ | ⟨_,ht,arr,ha,hl,hs,hm',hcells⟩
 ·exact absurd h0 hk
 refine .inr ⟨hk,fun hs'=>by simpa using ht hs',_,JH ha off u,by simpa using hl,by simpa using hs,hm',fun j x hj=>?_⟩
 simp only [gAE] at hj
 split at hj
 rotate_left
 ·rename_i hj'
  obtain ⟨v,f1,f2⟩:=hcells j x hj
  exact ⟨v,by simpa [Array.getElem?_setIfInBounds,hj'] using f1,CellR.mo hm f2 (fun k cs hx hn=>⟨rfl,far _ ⟨r,k,cs,hrow,by rw [hj,hx],hn⟩ (by simp)⟩)⟩
 rename_i hj'
 have hj2:x=c:=by
  (try split at hj) <;> first | (cases hj;rfl) | cases hj
 subst hj2
 subst hj'
 have hsz:off<arr.size:=by omega
 refine ⟨u,by show (arr.setIfInBounds off u)[off]?=some u;simp [hsz],F7 hc (CR.mo hm ?_ hcr)⟩
 cases x <;> first | trivial | cases hc
theorem RelG.write {M0:Nat->Prop} {w0:World} {st:ST} {a:Act} (h:RelG g M0 w0 st a w) {id off:Nat} {r:Row} {c:C} {u:Value} (hrow:st.hp[id]?=some (.r r)) (hk:g.κ id ≠ 0) (hc:c.one=true) (hcr:CR g st.hp w c u) (hoff:off<r.cells.length):
  RelG g M0 w0 { st with hp:=st.hp.set id (.r { r with cells:=r.cells.set off c }) } a (w.setCell ⟨g.γ (.ob id),off,none⟩ u):=by
 have hlt:id<st.hp.length:=(List.getElem?_eq_some_iff.1 hrow).1
 have hne:∀ i,i ≠ id->(st.hp.set id (.r { r with cells:=r.cells.set off c }))[i]?=st.hp[i]?:=fun i hi=>by rw [gE5 (Ne.symm hi)]
 have h1:(st.hp.set id (.r { r with cells:=r.cells.set off c }))[id]?=some (.r { r with cells:=r.cells.set off c }):=by simp [hlt]
 have hm:=GN (u:=u) (w:=w) h.hr hrow hk hc hne h1
 have hsub:∀ ℓ,Lv (st.hp.set id (.r { r with cells:=r.cells.set off c })) g ℓ->Lv st.hp g ℓ:=by
  intro ℓ hl
  cases ℓ with
  | ob i=>
   by_cases e:i=id
   ·subst e;exact .inl ⟨r,hrow,hk⟩
   rcases hl with ⟨r',e1,e2⟩ | ⟨kv,e1⟩
   ·exact .inl ⟨r',by rw [<- hne i e];exact e1,e2⟩
   exact .inr ⟨kv,by rw [<- hne i e];exact e1⟩
  | cl i j=>
   obtain ⟨r',k,cs,e1,e2,e3⟩:=hl
   by_cases e:i=id
   rotate_left
   ·exact ⟨r',k,cs,by rw [<- hne i e];exact e1,e2,e3⟩
   subst e
   rw [h1] at e1
   cases e1
   simp only [gAE] at e2
   split at e2
   ·(try split at e2) <;> first | (cases e2;cases hc;done) | cases e2
   exact ⟨r,k,cs,hrow,e2,e3⟩
 refine h.mo hm (Ou h.hr hrow hk hc hcr hoff hne h1) (fun ℓ hl=>h.new ℓ (hsub ℓ hl)) ?_
 refine ⟨h.fp.os,h.fp.tape,h.fp.output,by simpa [World.setCell] using h.fp.size,fun k hk' hM=>?_,h.fp.drawn⟩
 rw [Below.heap_setCell _ _ _ _ (fun e=>?_)]
 ·exact h.fp.block k hk' hM
 rcases h.new (.ob id) (.inl ⟨r,hrow,hk⟩) with h2 | h2
 ·exact hM (by rw [e];exact h2)
 simp at e;omega
end
end Go.Proofs.YtbnabodoabimnaaGreat
namespace Go.Proofs.YtbnabodoabimnaaGreat
set_option linter.unusedVariables false
set_option linter.unusedSimpArgs false
open Go.RowKit
def C.ofTr:Tr->C
 | .v x=>.v x
 | .l k cs=>.t k cs
def C.pl:C->Bool
 | .o _ _=>false
 | .b _ _ _=>false
 | _=>true
def DX (P:Program) (ev:Operand->AV) (hp:List Ob) (t:TypeId) (x:Operand):Option (Prop × AV):=
 match tyOf P t,ev x with
 | some y,.a (.c (.p id off))=>match hp[id]? with
  | some (.r r)=>if y.agg then some (off+y.size<=r.cells.length/\0<y.size/\((r.cells.drop off).take y.size).all C.pl=true,.a (.g ((r.cells.drop off).take y.size))) else match r.cells[off]? with
   | some (.o k cs)=>some (0<k.1,.a (.c (.b id off (cs.length / k.1))))
   | some c=>some (True,.a (.c c))
   | none=>none
  | _=>none
 | some y,.a (.c (.q cs off))=>if y.agg then some (off+y.size<=cs.length,.a (.g (((cs.drop off).take y.size).map C.ofTr))) else match cs[off]? with
  | some t=>some (True,.a (.c (C.ofTr t)))
  | none=>none
 | _,_=>none
def U6 (P:Program) (ev:Operand->AV) (hp:List Ob) (t:TypeId) (x:Operand):Option (Prop × AV):=
 match tyOf P t,ev x with
 | some y,.a (.c (.b id j n))=>match y.kind,hp[id]? with
  | 1,some (.r r)=>match r.cells[j]? with
   | some (.o _ _)=>some (True,.i n)
   | _=>none
  | _,_=>none
 | _,_=>none
def M9 (P:Program) (ev:Operand->AV) (hp:List Ob) (c:Call):Option (Prop × AV):=
 match c.callee,c.args.toList,c.argTypes.toList with
 | .builtin .len,[x],[t]=>U6 P ev hp t x
 | _,_,_=>none
def V9 (P:Program) (op:Op) (ev:Operand->AV) (hp:List Ob):Option (Prop × AV):=
 match op with
 | .load t x=>DX P ev hp t x
 | .call c=>M9 P ev hp c
 | _=>none

theorem BE {P:Program} {w:World} (b off:Nat):∀ (n i:Nat) (us:List Value) (acc:Array Value),us.length=n->(∀ (j:Nat) (u:Value),us[j]?=some u->w.cell? ⟨b,off+(i+j),none⟩=some u)->
  (loadCellsFrom ⟨b,off,none⟩ i n acc).run P w=.ok (acc++us.toArray) w
 | 0,i,us,acc,hn,_=>by
  have:us=[]:=gAt hn
  subst this;simp [loadCellsFrom]
 | n+1,i,us,acc,hn,h=>by
  obtain ⟨u,us',rfl⟩:∃ y ys',us=y :: ys':=by
   cases us with
   | nil=>simp at hn
   | cons y ys'=>exact ⟨y,ys',rfl⟩
  have h0:=h 0 u rfl
  simp only [loadCellsFrom,Sem.run_bind,Gn,load,Sem.run,gBr] at h0 ⊢
  rw [h0]
  simp only [Sem.run_pure,Result.andThen_ok]
  have ih:=BE (P:=P) (w:=w) b off n (i+1) us' (acc.push u) (by simpa using hn) (fun j v hj=>by
   have:=h (j+1) v (by simpa using hj)
   rw [show i+1+j=i+(j+1) from by omega];exact this)
  have e0:∀ (s:Sem (Array Value)),(match some u with | some v=>(Sem.pure v:Sem Value).run P w | none=>Result.halt (Halt.stuck "") w)=Result.ok u w:=fun _=>rfl
  simp [Sem.run,ih]
theorem Di {P:Program} {w:World} {t:TypeId} {y:Ty} (ht:tyOf P t=some y) (hag:y.agg=true) (b off:Nat) (us:List Value) (hn:us.length=y.size) (h:∀ (j:Nat) (u:Value),us[j]?=some u->w.cell? ⟨b,off+j,none⟩=some u):
  (Instr.loadAt t (.pointer (some ⟨b,off,none⟩))).run P w=.ok (.agg us.toArray) w:=by
 simp only [Instr.loadAt,Instr.sureAddr,loadVar,Sem.run_bind,Sem.run_pure,Result.andThen_ok,tyOf.agg ht,hag,if_true,tyOf.size ht,loadCells]
 rw [BE b off y.size 0 us #[] hn (fun j u hj=>by rw [gBD];exact h j u hj)]
 simp
theorem C3 {P:Program} {w:World} {t:TypeId} {y:Ty} (ht:tyOf P t=some y) (hag:y.agg=false) (b off:Nat) (u:Value) (h:w.cell? ⟨b,off,none⟩=some u):
  (Instr.loadAt t (.pointer (some ⟨b,off,none⟩))).run P w=.ok u w:=by
 simp [Instr.loadAt,Instr.sureAddr,loadVar,tyOf.agg ht,hag,load,Sem.run,h]

section
variable {P : Program} {g : Gh} {hp : List Ob} {w : World} {ρ : Operand -> Value} {ev : Operand -> AV} {c : Prop} {x : AV}
theorem CellR.cr {id j:Nat} {c:C} {u:Value} (hc:c.pl=true) (h:CellR g hp w id j c u):CR g hp w c u:=by
 cases c <;> first | exact h | cases hc
theorem Ec {t:Tr} {u:Value} (h:Rd (Ow hp g) w t u):CR g hp w (C.ofTr t) u:=by
 cases t with
 | v x=>cases h;exact rfl
 | l k cs=>exact h
theorem FG (hr:HR g hp w) (hR:∀ x,AVR (CR g hp w) (ev x) (ρ x)) {t:TypeId} {y:Operand} (h:DX P ev hp t y=some (c,x)) (hc:c):∃ v,(∀ W,Fp (fun _=>False) w W->(Instr.loadAt t (ρ y)).run P W=.ok v W)/\AVR (CR g hp w) x v:=by
 have hy:=hR y
 unfold DX at h
 split at h
 rotate_left
 ·rename_i ty cs off hty hev
  rw [hev] at hy
  obtain ⟨b,o',us,b2,b3,b4,b5,b6⟩:=hy
  rw [b2]
  split at h
  rotate_left
  ·rename_i hag
   split at h
   rotate_left
   ·cases h
   rename_i t' ht'
   simp only [gBI,gBJ] at h
   obtain ⟨_,rfl⟩:=h
   exact ⟨us off,fun W hW=>C3 hty (by simpa using hag) _ _ _ ((hW.cell (p:=⟨_,_,none⟩) b4 (fun h=>h)).trans (b5 _ _ ht')),Ec (b6 _ _ ht')⟩
  rename_i hag
  simp only [gBI,gBJ] at h
  obtain ⟨rfl,rfl⟩:=h
  refine ⟨_,fun W hW=>Di hty hag b (o'+off) ((List.range ty.size).map fun j=>us (off+j)) (by simp) (fun j u hj=>?_),(List.range ty.size).map fun j=>us (off+j),rfl,by simp;omega,fun i c hi=>?_⟩
  rotate_left
  ·simp only [gAC,gAF,gAA] at hi ⊢
   split at hi
   rotate_left
   ·cases hi
   rename_i hlt
   simp only [gBG] at hi
   obtain ⟨t',ht',rfl⟩:=hi
   exact ⟨us (off+i),by simp [hlt],Ec (b6 _ _ ht')⟩
  simp only [gAC,gBG] at hj
  obtain ⟨j',h1,rfl⟩:=hj
  have hj':j'=j/\j<ty.size:=by
   obtain ⟨hlt,e⟩:=List.getElem?_eq_some_iff.1 h1
   simp at e hlt
   exact ⟨e.symm,hlt⟩
  obtain ⟨rfl,hlt⟩:=hj'
  obtain ⟨t',ht'⟩:∃ t',cs[off+j']?=some t':=⟨_,gE1 (by omega)⟩
  rw [Nat.add_assoc]
  exact (hW.cell (p:=⟨_,_,none⟩) b4 (fun h=>h)).trans (b5 _ _ ht')
 ·cases h
 rename_i ty id off hty hev
 rw [hev] at hy
 obtain ⟨b1,b2⟩:=hy
 rw [b2]
 split at h
 rotate_left
 ·cases h
 rename_i r hrow
 rcases hr.row id r hrow with ⟨_,h2⟩ | ⟨_,_,arr,ha,hl,hs,hm,hcells⟩
 ·exfalso
  rw [h2] at h
  split at h
  rotate_left
  ·simp at h
  simp only [gBI,gBJ] at h
  obtain ⟨rfl,rfl⟩:=h
  simp at hc
  omega
 split at h
 ·rename_i hag
  simp only [gBI,gBJ] at h
  obtain ⟨rfl,rfl⟩:=h
  obtain ⟨c1,_,c2⟩:=hc
  have hLR:LR (CR g hp w) ((r.cells.drop off).take ty.size) ((arr.toList.drop off).take ty.size):=by
   refine ⟨by simp;omega,fun i c hi=>?_⟩
   have hpl:c.pl=true:=gAg.1 c2 c (gE9 hi)
   rw [gAF] at hi ⊢
   split at hi
   rotate_left
   ·cases hi
   rename_i hlt
   rw [gAA] at hi ⊢
   obtain ⟨u,f1,f2⟩:=hcells _ c hi
   exact ⟨u,by rw [if_pos hlt];simpa using f1,f2.cr hpl⟩
  refine ⟨_,fun W hW=>Di hty hag _ off _ (by simp;omega) (fun j u hj=>?_),_,rfl,hLR⟩
  rw [hW.cell (p:=⟨_,_,none⟩) (Array.getElem?_eq_some_iff.1 ha).1 (fun h=>h),cell_of_row _ _ _ _ _ _ ha]
  rw [gAF] at hj
  split at hj
  rotate_left
  ·cases hj
  rw [gAA] at hj
  simpa using hj
 rename_i hag
 split at h
 rotate_left
 ·rename_i c' hno hcell
  simp only [gBI,gBJ] at h
  obtain ⟨rfl,rfl⟩:=h
  obtain ⟨u,f1,f2⟩:=hcells _ _ hcell
  have hcu:w.cell? ⟨g.γ (.ob id),off,none⟩=some u:=by rw [cell_of_row _ _ _ _ _ _ ha];exact f1
  refine ⟨u,fun W hW=>C3 hty (by simpa using hag) _ _ u ((hW.cell (p:=⟨_,_,none⟩) (Array.getElem?_eq_some_iff.1 ha).1 (fun h=>h)).trans hcu),?_⟩
  cases c' with
  | o k cs=>exact absurd rfl (hno k cs)
  | b _ _ _=>exact f2.elim
  | _=>exact f2
 ·cases h
 rename_i k cs hcell
 simp only [gBI,gBJ] at h
 obtain ⟨rfl,rfl⟩:=h
 obtain ⟨u,f1,f2⟩:=hcells _ _ hcell
 have hcu:w.cell? ⟨g.γ (.ob id),off,none⟩=some u:=by rw [cell_of_row _ _ _ _ _ _ ha];exact f1
 refine ⟨u,fun W hW=>C3 hty (by simpa using hag) _ _ u ((hW.cell (p:=⟨_,_,none⟩) (Array.getElem?_eq_some_iff.1 ha).1 (fun h=>h)).trans hcu),b1,fun r' k' cs' e1 e2=>?_⟩
 rw [hrow] at e1;cases e1
 rw [hcell] at e2;cases e2
 refine ⟨(Array.getElem?_eq_some_iff.1 ha).1,hcu,?_⟩
 rcases f2 with ⟨h1,A,h2,_⟩ | ⟨_,n,cp,arr',h2,h3,_⟩
 ·rw [h1];simp;exact ⟨_,_,h2⟩
 rw [h3,Nat.mul_div_cancel _ hc];exact ⟨rfl,_,_,h2⟩
theorem IJ (hr:HR g hp w) (hR:∀ x,AVR (CR g hp w) (ev x) (ρ x)) {cl:Call} {ty:TypeId} (h:M9 P ev hp cl=some (c,x)) (hc:c):
  ∃ v,(∀ W,Fp (fun _=>False) w W->(do let d <- resolve ρ cl ty;invoke d.target d.args:Sem Next).run P W=.ok (.value v) W)/\AVR (CR g hp w) x v:=by
 obtain ⟨callee,args,ts⟩:=cl
 unfold M9 at h
 simp only at h
 split at h
 rotate_left
 ·cases h
 rename_i y t ha ht
 have ha':args=#[y]:=by apply gA0;simpa using ha
 have ht':ts=#[t]:=by apply gA0;simpa using ht
 subst ha';subst ht'
 have hy:=hR y
 unfold U6 at h
 split at h
 rotate_left
 ·cases h
 rename_i yt id j n hty hev
 rw [hev] at hy
 obtain ⟨b1,b2⟩:=hy
 split at h
 rotate_left
 ·cases h
 rename_i r hk hrow
 split at h
 rotate_left
 ·cases h
 rename_i k cs hcell
 simp only [gBI,gBJ] at h
 obtain ⟨_,rfl⟩:=h
 obtain ⟨_,_,_,A,cp,e⟩:=b2 r k cs hrow hcell
 refine ⟨.int .i64 n,fun W _=>?_,rfl⟩
 simp only [resolve,invoke,builtin,Sem.run_bind,Sem.run_pure,Result.andThen_ok,gAZ,gAV,gAX]
 simp [e,Builtin.len_,run_underlying (tyOf.slice hty hk),goInt]
theorem GO (hr:HR g hp w) (hR:∀ x,AVR (CR g hp w) (ev x) (ρ x)) {o:Oper} (h:V9 P o.op ev hp=some (c,x)) (hc:c):∃ v,(∀ W,Fp (fun _=>False) w W->(execOp ρ o).run P W=.ok (.value v) W)/\AVR (CR g hp w) x v:=by
 obtain ⟨dst,op,ty,pos,af,gd⟩:=o
 simp only at h
 cases op <;> simp only [V9] at h <;> (try (cases h;done))
 case load t y=>
  obtain ⟨v,h1,h2⟩:=FG hr hR h hc
  exact ⟨v,fun W hW=>by simp [execOp,h1 W hW],h2⟩
 case call=>exact IJ hr hR h hc
end

/-! new objects -/
def T7 (P:Program) (e:TypeId):Option (Nat × Nat):=
 match tyOf P e with
 | some y=>match y.kind,y.zero with
  | 1,[.slice none 0 0]=>(tyOf P y.elem).map fun z=>(z.size,y.elem)
  | _,_=>none
 | none=>none
def CX (P:Program) (e:TypeId) (y:Ty):List C:=
 match T7 P e with
 | some k=>[.o k []]
 | none=>y.zero.map .v
def rep (n:Nat) (cs:List C):List C:=
 match cs with
 | [c]=>List.replicate n c
 | _=>(List.replicate n cs).flatten
def T8 (P:Program) (ev:Operand->AV) (e:TypeId) (x:Operand):Option (Prop × Ob × (Nat->AV)):=
 match ev x with
 | .a x=>if x.ones && 0<x.cells.length && x.cells.all C.pl then some (True,.r ⟨e,x.cells.length,false,x.cells⟩,fun id=>.a (.c (.p id 0))) else none
 | _=>none
def HK (P:Program) (e:TypeId):Option (Prop × Ob × (Nat->AV)):=
 match tyOf P e with
 | some y=>if 0<y.zero.length then some (True,.r ⟨e,y.zero.length,false,y.zero.map .v⟩,fun id=>.a (.c (.p id 0))) else none
 | none=>none
def T9 (P:Program) (ev:Operand->AV) (t:TypeId) (len:Nat) (parts:Array (Nat × Operand)):Option (Prop × Ob × (Nat->AV)):=
 match tyOf P t with
 | some y=>match y.kind,tyOf P y.elem with
  | 1,some z=>match Fa (fun i=>some (i*z.size,z.size)) (List.replicate len (z.zero.map C.v)).flatten (parts.toList.map fun p=>(p.1,ev p.2)) with
   | some cs=>if 0<z.size && len<=1000 && z.size<=1000 && z.zero.length == z.size && cs.all C.pl && cs.length == len*z.size then some (True,.r ⟨y.elem,z.size,true,cs⟩,fun id=>.a (.c (.s id len))) else none
   | none=>none
  | _,_=>none
 | none=>none
def FH:Operand->Operand->Bool
 | .tmp a,.tmp b=>a == b
 | _,_=>false
theorem Ov {α:Type} {ρ:Operand->α} {l c:Operand} (h:FH l c=true):ρ l=ρ c:=by
 unfold FH at h
 split at h
 ·simp at h;rw [h]
 cases h
def Ma (P:Program) (ev:Operand->AV) (t:TypeId) (l c:Operand):Option (Prop × Ob × (Nat->AV)):=
 match tyOf P t with
 | some y=>match y.kind,tyOf P y.elem with
  | 1,some z=>match ev l,ev c with
   | .a (.c (.v (.int _ n))),.a (.c (.v (.int _ m)))=>if 0<z.size && z.zero.length == z.size then
    some (0<=n/\n<=m/\m*z.bytes<=140737488355328/\m<=140737488355328,.r ⟨y.elem,z.size,FH l c,rep n.toNat (CX P y.elem z)⟩,fun id=>.a (.c (.s id n.toNat))) else none
   | _,_=>none
  | _,_=>none
 | none=>none
def Va (P:Program) (op:Op) (ev:Operand->AV):Option (Prop × Ob × (Nat->AV)):=
 match op with
 | .box e x=>T8 P ev e x
 | .alloc e=>HK P e
 | .buildSlice t len parts=>T9 P ev t len parts
 | .makeSlice t l c=>Ma P ev t l c
 | .makeMap _ none=>some (True,.m [],fun id=>.a (.c (.m id)))
 | _=>none
end Go.Proofs.YtbnabodoabimnaaGreat
namespace Go.Proofs.YtbnabodoabimnaaGreat
set_option linter.unusedVariables false
set_option linter.unusedSimpArgs false
open Go.RowKit
theorem CH {hp:List Ob}:¬ Bn hp hp.length:=by
 rintro ⟨o,h,_⟩
 simp at h
theorem BO {hp:List Ob} (ob:Ob) (i:Nat) (h:i ≠ hp.length):(hp++[ob])[i]?=hp[i]?:=by
 rcases gBx i hp.length with hl | hl
 ·rw [gEa hl]
 rw [gAB hl,gAB (by simp;omega)]
theorem Bb {hp:List Ob} (ob:Ob):(hp++[ob])[hp.length]?=some ob:=by simp
theorem Ds {hp:List Ob} {ob:Ob} (h:ob.born=true):Bn (hp++[ob]) hp.length:=⟨ob,Bb ob,h⟩
theorem IK {c:C} (h:c.pl=true):c.fresh=true:=by cases c <;> first | rfl | cases h
theorem GP {g:Gh} {hp:List Ob} {w:World} {xs:List C} {us:List Value} (h:LR (CR g hp w) xs us) (hpl:xs.all C.pl=true):∀ (j:Nat) (x:C),xs[j]?=some x->∃ u,us[j]?=some u/\Gr g hp w x u:=by
 intro j x hj
 obtain ⟨u,h1,h2⟩:=h.2 j x hj
 exact ⟨u,h1,IK (gAg.1 hpl x (gE9 hj)),.inl h2⟩
theorem Fi (z:List Value) (n i:Nat) (hi:i<n*z.length):((List.replicate n z).flatten)[i]?=z[i % z.length]?:=by
 have hk:0<z.length:=by
  rcases gBs z.length with h | h
  ·rw [h] at hi;simp at hi
  exact h
 have e:(List.replicate n z).flatten=(List.replicate n ()).flatMap fun _=>z:=by
  rw [List.flatMap_def,List.map_replicate]
 rw [e,<- GL (fun _:Unit=>z) z.length (fun _=>rfl) (List.replicate n ()) (i / z.length) (i % z.length) () (by
  rw [gAD,if_pos]
  exact Nat.div_lt_of_lt_mul (by rw [Nat.mul_comm];exact hi)) (Nat.mod_lt _ hk)]
 congr 1
 exact (Nat.div_add_mod' i z.length).symm
theorem HL (zv:Value) (zs:List Value) (hz:zv.cells.toList=zs) (n:Nat):((Array.range (n*zs.length)).map (zv.cells[· % zv.cells.size]!))=((List.replicate n zs).flatten).toArray:=by
 subst hz
 apply gA0
 apply List.ext_getElem?
 intro i
 by_cases hi:i<n*zv.cells.toList.length
 rotate_left
 ·rw [gAB (by simp;simp at hi;omega),gAB (by simp;simp at hi;omega)]
 rw [List.toList_toArray,Fi _ n i hi]
 have hk:0<zv.cells.size:=by
  rcases gBs zv.cells.size with h | h
  ·simp [h] at hi
  exact h
 have hm:i % zv.cells.size<zv.cells.size:=Nat.mod_lt _ hk
 simp at hi
 simp [hi,hm]
section
variable {P : Program} {g : Gh} {M0 : Nat -> Prop} {w0 w : World} {st : ST} {a : Act} {c : Prop} {ob : Ob} {f : Nat -> AV}
def IL (g:Gh) (w:World) (M0:Nat->Prop) (w0:World) (st:ST) (a:Act) (ob:Ob) (f:Nat->AV) (v:Value) (w':World):Prop:=
 ∃ g',Ext st.hp.length g g'/\Fp (fun _=>False) w w'/\RelG g' M0 w0 { st with hp:=st.hp++[ob] } a w'/\AVR (CR g' (st.hp++[ob]) w') (f st.hp.length) v
theorem Ld (h:RelG g M0 w0 st a w) {e:TypeId} {x:Operand} (ha:T8 P st.ev e x=some (c,ob,f)) (hc:c):
  ∃ v w',(Instr.box e (a.eval x)).run P w=.ok v w'/\IL g w M0 w0 st a ob f v w':=by
 have hx:=h.ev x
 unfold T8 at ha
 split at ha
 rotate_left
 ·cases ha
 rename_i y hev
 rw [hev] at hx
 split at ha
 rotate_left
 ·cases ha
 rename_i hcond
 simp only [gA1,gBM] at hcond
 obtain ⟨⟨c1,c2⟩,c3⟩:=hcond
 simp only [gBI,gBJ] at ha
 obtain ⟨_,rfl,rfl⟩:=ha
 have hl:=A0R.cells c1 hx
 have hb:=h.birth (hp':=st.hp++[.r ⟨e,y.cells.length,false,y.cells⟩]) (id:=st.hp.length) (c:=1) (r:=⟨e,y.cells.length,false,y.cells⟩) (us:=(a.eval x).cells.toList) CH (BO _) (Bb _) (by omega) (by simp) (by omega) (by rw [hl.1];exact gBu _) (by rw [hl.1];simp) (GP hl c3)
 refine ⟨_,_,?_,_,Dr (gBu _),Fp.alloc _ _ _,hb,Ds rfl,rfl⟩
 rw [g.at_self.1]
 simp [Instr.box,newVar,newRow]
theorem HM (h:RelG g M0 w0 st a w) {e:TypeId} (ha:HK P e=some (c,ob,f)) (hc:c):
  ∃ v w',(Instr.alloc e true (.tuple #[])).run P w=.ok v w'/\IL g w M0 w0 st a ob f v w':=by
 unfold HK at ha
 split at ha
 rotate_left
 ·cases ha
 rename_i y hty
 split at ha
 rotate_left
 ·cases ha
 rename_i hcond
 simp only [gBI,gBJ] at ha
 obtain ⟨_,rfl,rfl⟩:=ha
 obtain ⟨z,hz,hzc⟩:=tyOf.zero hty w
 have hb:=h.birth (hp':=st.hp++[.r ⟨e,y.zero.length,false,y.zero.map .v⟩]) (id:=st.hp.length) (c:=1) (r:=⟨e,y.zero.length,false,y.zero.map .v⟩) (us:=y.zero) CH (BO _) (Bb _) (by omega) (by simp) (by omega) (by simp) (by simp)
  (GP (LR.zero y.zero) (by simp [List.all_map];intro x _;rfl))
 refine ⟨_,_,?_,_,Dr (gBu _),Fp.alloc _ _ _,hb,Ds rfl,rfl⟩
 rw [g.at_self.1]
 have:z.cells=y.zero.toArray:=by rw [<- hzc]
 simp [Instr.alloc,hz,newVar,newRow,this]
theorem Lf (h:RelG g M0 w0 st a w) {t:TypeId} {len:Nat} {parts:Array (Nat × Operand)} (ha:T9 P st.ev t len parts=some (c,ob,f)) (hc:c):
  ∃ v w',(Instr.buildSlice t len (parts.map fun (i,x)=>(i,a.eval x))).run P w=.ok v w'/\IL g w M0 w0 st a ob f v w':=by
 unfold T9 at ha
 split at ha
 rotate_left
 ·cases ha
 rename_i y hty
 split at ha
 rotate_left
 ·cases ha
 rename_i z hk hz
 split at ha
 rotate_left
 ·cases ha
 rename_i cs hfill
 split at ha
 rotate_left
 ·cases ha
 rename_i hcond
 simp only [gA1,gBM,beq_iff_eq] at hcond
 obtain ⟨⟨⟨⟨⟨c1,c2⟩,c2'⟩,c3⟩,c4⟩,c5⟩:=hcond
 simp only [gBI,gBJ] at ha
 obtain ⟨_,rfl,rfl⟩:=ha
 obtain ⟨zv,hzv,hzc⟩:=tyOf.zero hz w
 have hflat:(List.replicate len (z.zero.map C.v)).flatten=((List.replicate len z.zero).flatten).map C.v:=by simp [List.map_flatten]
 obtain ⟨r,r1,r2⟩:=E9 (g:=g) (hp:=st.hp) (w:=w) (vs:=(parts.map fun p=>(p.1,a.eval p.2)).toList) hfill (by rw [hflat];exact LR.zero _) (by simp) (fun i p q hp1 hq1=>by
  simp only [gAC,Array.toList_map,gBG] at hp1 hq1
  obtain ⟨b,hb,rfl⟩:=hp1
  obtain ⟨d,hd,rfl⟩:=hq1
  rw [hb] at hd;cases hd
  exact ⟨rfl,h.ev _⟩)
 have hsz:len*z.size<=1000000:=gBz c2 c2'
 have hrun:(Instr.buildSlice t len (parts.map fun (i,x)=>(i,a.eval x))).run P w=.ok (.slice (some ⟨w.heap.size,0,none⟩) len len) (w.alloc (.cells r.toArray y.elem)):=by
  have hzero:=HL zv z.zero hzc len
  rw [c3] at hzero
  simp only [Instr.buildSlice,Sem.run_bind,run_underlying (tyOf.slice hty hk),Result.andThen_ok,tyOf.size hz]
  rw [if_neg (by omega)]
  have hfl:Instr.fill (fun i=>some (i*z.size,z.size)) (((List.replicate len z.zero).flatten).toArray) (parts.map fun p=>(p.1,a.eval p.2)).toList=some r.toArray:=r1
  rw [Array.toList_map] at hfl
  by_cases hl0:len*z.size=0
  rotate_left
  ·simp [hl0,hzv,newRow,hzero,hfl]
  have hr0:((List.replicate len z.zero).flatten).toArray=#[]:=by
   rw [<- hzero,hl0];simp
  rw [hr0] at hfl
  have he:Array.map (fun _=>(default:Value)) (Array.range 0)=#[]:=by simp
  simp [hl0,newRow,he,hfl]
 by_cases h0:len=0
 ·subst h0
  have hcs:cs=[]:=gAt (by simpa using c5)
  have hb:=h.birth0 (w':=w.alloc (.cells r.toArray y.elem)) (hp':=st.hp++[.r ⟨y.elem,z.size,true,cs⟩]) (id:=st.hp.length) (r:=⟨y.elem,z.size,true,cs⟩) CH (BO _) (Bb _) hcs (Fp.alloc _ _ _)
  refine ⟨_,_,hrun,_,Dr (gBu _),Fp.alloc _ _ _,hb,Ds rfl,gBE _,_,by rw [g.at_self.2],fun hn=>absurd g.at_self.2 hn,fun b hb=>by cases hb;simp⟩
 have hb:=h.birth (hp':=st.hp++[.r ⟨y.elem,z.size,true,cs⟩]) (id:=st.hp.length) (c:=len) (r:=⟨y.elem,z.size,true,cs⟩) (us:=r) CH (BO _) (Bb _) h0 (fun _ hcs=>by
   simp only at hcs
   rw [hcs] at c5
   have:=Nat.mul_pos (Nat.pos_of_ne_zero h0) c1
   simp at c5;omega) (by omega) (by rw [r2.1];exact gBu _) (by rw [r2.1];exact c5) (GP r2 c4)
 refine ⟨_,_,hrun,_,Dr (gBu _),Fp.alloc _ _ _,hb,Ds rfl,by rw [g.at_self.2];exact gBu _,_,by rw [g.at_self.2],fun _=>by rw [g.at_self.1],fun b hb=>by cases hb;simp⟩
theorem Ox {e:TypeId} {y:Ty} (hty:tyOf P e=some y) (hl:y.zero.length=y.size) (n:Nat):
  (rep n (CX P e y)).length=n*y.size/\∀ (j:Nat) (x:C),(rep n (CX P e y))[j]?=some x->∃ u,((List.replicate n y.zero).flatten)[j]?=some u/\Gr g st.hp w x u:=by
 unfold CX
 cases hn:T7 P e with
 | some k=>
  have hz:y.zero=[.slice none 0 0]:=by
   unfold T7 at hn
   rw [hty] at hn
   simp only at hn
   split at hn
   ·rename_i h0;exact h0
   cases hn
  simp only [rep]
  refine ⟨by rw [<- hl,hz];simp,fun j x hj=>?_⟩
  rw [gAD] at hj
  split at hj
  rotate_left
  ·cases hj
  cases hj
  refine ⟨.slice none 0 0,?_,rfl,.inr ⟨k,rfl,rfl⟩⟩
  rw [hz,Fi _ n j (by simpa using ‹_›)]
  simp [Nat.mod_one]
 | none=>
  have e1:rep n (y.zero.map C.v)=((List.replicate n y.zero).flatten).map C.v:=by
   unfold rep
   split
   rotate_left
   ·simp [List.map_flatten]
   rename_i c hc
   obtain ⟨v,hv,rfl⟩:∃ v,y.zero=[v]/\C.v v=c:=by
    cases hz:y.zero with
    | nil=>rw [hz] at hc;cases hc
    | cons v r=>
     rw [hz] at hc
     simp at hc
     exact ⟨v,by rw [hc.2],hc.1⟩
   rw [hv];simp
  simp only
  rw [e1]
  refine ⟨by simp [hl],fun j x hj=>?_⟩
  rw [gAC,gBG] at hj
  obtain ⟨u,hu,rfl⟩:=hj
  exact ⟨u,hu,rfl,.inl rfl⟩
theorem IM (h : RelG g M0 w0 st a w) {t : TypeId} {l cp : Operand} (ha : Ma P st.ev t l cp = some (c, ob, f)) (hc : c) :
  ∃ v w', (Instr.makeSlice t (a.eval l) (a.eval cp)).run P w = .ok v w' /\ IL g w M0 w0 st a ob f v w' := by
 unfold Ma at ha
 split at ha
 rotate_left
 ·cases ha
 rename_i y hty
 split at ha
 rotate_left
 ·cases ha
 rename_i z hk hz
 split at ha
 rotate_left
 ·cases ha
 rename_i k1 n k2 m hl hcp
 split at ha
 rotate_left
 ·cases ha
 rename_i hcond
 simp only [gA1, gBM, beq_iff_eq] at hcond
 obtain ⟨c1, c2⟩ := hcond
 simp only [gBI, gBJ] at ha
 obtain ⟨rfl, rfl, rfl⟩ := ha
 obtain ⟨d1, d2, d3, d4⟩ := hc
 rw [C2 hl (h.ev l), C2 hcp (h.ev cp)]
 obtain ⟨i, zv, hi, hzv, hs, hb, hzc⟩ := tyOf.info hz
 have hr := run_make (P := P) w t y.elem i zv (tyOf.slice hty hk) hi hzv k1 k2 n m d1 d2 (by rw [hb, Int.mul_comm]; omega) (by omega)
 have hzero := HL zv z.zero hzc m.toNat
 rw [c2] at hzero
 obtain ⟨n, rfl⟩ := Int.eq_ofNat_of_zero_le d1
 obtain ⟨m, rfl⟩ := Int.eq_ofNat_of_zero_le (by omega : 0 <= m)
 simp only [gAd] at hr hzero ⊢
 have hmade : madeCells zv.cells (m * i.size) = ((List.replicate m z.zero).flatten).toArray := by rw [hs]; exact hzero
 rw [hmade] at hr
 obtain ⟨q1, q2⟩ := Ox (g := g) (st := st) (w := w) hz c2 n
 by_cases h0 : m = 0
 ·subst h0
  have hn0 : n = 0 := by omega
  subst hn0
  have hb := h.birth0 (w' := w.alloc (.cells ((List.replicate 0 z.zero).flatten).toArray y.elem)) (hp' := st.hp ++ [.r ⟨y.elem, z.size, FH l cp, rep 0 (CX P y.elem z)⟩]) (id := st.hp.length) (r := ⟨y.elem, z.size, FH l cp, rep 0 (CX P y.elem z)⟩) CH (BO _) (Bb _) (gAt (by simpa using q1)) (Fp.alloc _ _ _)
  refine ⟨_, _, hr, _, Dr (gBu _), Fp.alloc _ _ _, hb, Ds rfl, gBE _, _, by rw [g.at_self.2], fun hn => absurd g.at_self.2 hn, fun b hb => by cases hb; simp⟩
 have hle : n * z.size <= m * z.size := gBA _ (by omega)
 have hb := h.birth (hp' := st.hp ++ [.r ⟨y.elem, z.size, FH l cp, rep n (CX P y.elem z)⟩]) (id := st.hp.length) (c := m) (r := ⟨y.elem, z.size, FH l cp, rep n (CX P y.elem z)⟩) (us := (List.replicate m z.zero).flatten) CH (BO _) (Bb _) h0 (fun hs hcs => by
   have he : st.ev l = st.ev cp := Ov hs
   rw [hl, hcp] at he
   injection he with he
   injection he with he
   injection he with he
   injection he with _ he
   have hnm : n = m := by omega
   simp only at hcs
   rw [hcs] at q1
   have := Nat.mul_pos (Nat.pos_of_ne_zero h0) c1
   simp at q1; rw [hnm] at q1; omega) (by omega)
  (by rw [q1]; simp [c2]; exact hle) (by simp [c2]) (fun j x hj => by
   obtain ⟨u, e1, e2⟩ := q2 j x hj
   refine ⟨u, ?_, e2⟩
   have hj1 : j < n * z.size := by rw [<- q1]; exact (List.getElem?_eq_some_iff.1 hj).1
   rw [Fi _ _ _ (by rw [c2]; exact hj1)] at e1
   rw [Fi _ _ _ (by rw [c2]; omega)]
   exact e1)
 refine ⟨_, _, hr, _, Dr (gBu _), Fp.alloc _ _ _, hb, Ds rfl, by rw [g.at_self.2]; omega, _, by rw [g.at_self.2], fun _ => by rw [g.at_self.1], fun b hb => by cases hb; simp⟩
theorem Mb (h:RelG g M0 w0 st a w) {o:Oper} (ha:Va P o.op st.ev=some (c,ob,f)) (hc:c):∃ v w',(execOp a.eval o).run P w=.ok (.value v) w'/\IL g w M0 w0 st a ob f v w':=by
 have lift:∀ {s:Sem Value},(∃ v w',s.run P w=.ok v w'/\IL g w M0 w0 st a ob f v w')->∃ v w',(do pure (Next.value (<- s)):Sem Next).run P w=.ok (.value v) w'/\IL g w M0 w0 st a ob f v w':=by
  rintro s ⟨v,w',h1,h2⟩
  exact ⟨v,w',by simp [h1],h2⟩
 obtain ⟨dst,op,ty,pos,af,gd⟩:=o
 simp only at ha
 cases op <;> simp only [Va] at ha <;> (try (cases ha;done))
 case box=>exact lift (Ld h ha hc)
 case alloc=>exact lift (HM h ha hc)
 case buildSlice=>exact lift (Lf h ha hc)
 case makeSlice=>exact lift (IM h ha hc)
 case makeMap t r=>
  cases r with
  | some r=>cases ha
  | none=>
   simp only [gBI,gBJ] at ha
   obtain ⟨_,rfl,rfl⟩:=ha
   refine ⟨.map (some w.heap.size),w.alloc (.map #[] 0),by simp [execOp,Instr.makeMap],_,Dr (gBu _),Fp.alloc _ _ _,h.birthM (hp':=st.hp++[.m []]) (id:=st.hp.length) CH (BO _) (Bb _),Ds rfl,by rw [g.at_self.1]⟩
end
end Go.Proofs.YtbnabodoabimnaaGreat
namespace Go.Proofs.YtbnabodoabimnaaGreat
set_option linter.unusedVariables false
set_option linter.unusedSimpArgs false
open Go.RowKit
theorem Ua {g:Gh} {hp:List Ob} {w:World} {c:C} {y:Value} (h1:c.one=true) (h:CR g hp w c y):y.oneCell'=true:=by
 cases c with
 | u=>cases h1
 | v x=>cases (show y=x from h);cases y <;> first | rfl | (simp [C.one] at h1;done)
 | t k cs=>cases (show Rd _ _ _ _ from h) <;> rfl
 | s id n=>obtain ⟨_,_,_,rfl,_⟩:=h;rfl
 | p id off=>obtain ⟨_,rfl⟩:=h;rfl
 | q cs off=>obtain ⟨b,o,us,rfl,_⟩:=h;rfl
 | o k cs=>cases h1
 | b id j n=>cases h1
 | m id=>obtain ⟨_,rfl⟩:=h;rfl
 | w id off n k=>obtain ⟨_,_,_,rfl⟩:=h;rfl
 | f fn ids=>obtain ⟨_,rfl⟩:=h;rfl
 | it _ _ _ _=>exact h.elim

def Vb (P:Program) (ev:Operand->AV) (hp:List Ob) (t:TypeId) (x v:Operand):Option (Prop × List Ob):=
 match tyOf P t,ev x,ev v with
 | some y,.a (.c (.p id off)),.a vv=>match hp[id]? with
  | some (.r r)=>some (vv.ones=true/\vv.cells.all C.one=true/\vv.cells.length=y.size/\0<y.size/\off+y.size<=r.cells.length,hp.set id (.r { r with cells:=De r.cells off vv.cells }))
  | _=>none
 | _,_,_=>none
section
variable {P : Program} {g : Gh} {M0 : Nat -> Prop} {w0 w : World} {st : ST} {a : Act} {c : Prop}
theorem BB {id off:Nat} (hk:g.κ id ≠ 0):∀ (cs:List C) (us:List Value) (i:Nat) (st:ST) (w:World) (r:Row),RelG g M0 w0 st a w->st.hp[id]?=some (.r r)->LR (CR g st.hp w) cs us->cs.all C.one=true->off+i+cs.length<=r.cells.length->
  ∃ w',(storeCells ⟨g.γ (.ob id),off,none⟩ us i).run P w=.ok () w'/\RelG g M0 w0 { st with hp:=st.hp.set id (.r { r with cells:=De r.cells (off+i) cs }) } a w'
 | [],us,i,st,w,r,h,hrow,hl,_,_=>by
  have:us=[]:=gAt hl.1
  subst this
  refine ⟨w,by simp [storeCells],?_⟩
  have e:st.hp.set id (.r { r with cells:=De r.cells (off+i) [] })=st.hp:=by
   apply List.ext_getElem?
   intro j
   rw [gAE]
   split
   ·rename_i e;subst e
    have:=(List.getElem?_eq_some_iff.1 hrow).1
    rw [if_pos this,hrow];rfl
   ·rfl
  rw [e];exact h
 | c :: cs,us,i,st,w,r,h,hrow,hl,h1,hle=>by
  obtain ⟨u,us',rfl⟩:∃ y ys',us=y :: ys':=by
   cases us with
   | nil=>have:=hl.1;simp at this
   | cons y ys'=>exact ⟨y,ys',rfl⟩
  simp only [gAf,gA1] at h1
  obtain ⟨h1,h2⟩:=h1
  have hc:=hl.2 0 c rfl
  simp at hc
  simp only [gAJ] at hle
  have hw:=h.write (u:=u) hrow hk h1 hc (off:=off+i) (by omega)
  have hlt:id<st.hp.length:=(List.getElem?_eq_some_iff.1 hrow).1
  have hm:=GN (u:=u) (w:=w) (off:=off+i) h.hr hrow hk h1 (hp':=st.hp.set id (.r { r with cells:=r.cells.set (off+i) c })) (fun j hj=>by rw [gE5 (Ne.symm hj)]) (by simp [hlt])
  obtain ⟨w',r1,r2⟩:=BB (off:=off) hk cs us' (i+1) _ _ { r with cells:=r.cells.set (off+i) c } hw (by simp [hlt]) (by
   refine LR.imp (R:=CR g st.hp w) ⟨by have:=hl.1;simpa using this,fun j x hx=>by simpa using hl.2 (j+1) x (by simpa using hx)⟩ ?_
   intro x hx v hv
   refine CR.mo hm ?_ hv
   have:=gAg.1 h2 x hx
   cases x <;> first | trivial | cases this) h2 (by simp;omega)
  refine ⟨w',?_,?_⟩
  ·simp only [storeCells,Sem.run_bind,Gn]
   rw [run_store _ _ _ _ _ (Ua h1 hc)]
   have hcell:∃ v,w.cell? ⟨g.γ (.ob id),off+i,none⟩=some v/\w.frozen? ⟨g.γ (.ob id),off+i,none⟩=false:=by
    rcases h.hr.row id r hrow with ⟨h0,_⟩ | ⟨_,_,arr,ha,hl',_⟩
    ·exact absurd h0 hk
    ·refine ⟨arr[off+i]'(by omega),?_,?_⟩
     ·rw [cell_of_row _ _ _ _ _ _ ha];exact gEd _
     ·simp [World.frozen?,ha]
   obtain ⟨v,e1,e2⟩:=hcell
   rw [e1]
   simp only [e2,gA5,if_false,Result.andThen_ok]
   exact r1
  ·simp only [List.set_set] at r2
   exact r2
theorem QG (h:RelG g M0 w0 st a w) {o:Oper} {t:TypeId} {x v:Operand} {hp':List Ob} (ho:o.op=.store t x v) (hs:Vb P st.ev st.hp t x v=some (c,hp')) (hc:c):
  ∃ w',(execOp a.eval o).run P w=.ok .skip w'/\RelG g M0 w0 { st with hp:=hp' } a w':=by
 have hx:=h.ev x
 have hv:=h.ev v
 unfold Vb at hs
 split at hs
 rotate_left
 ·cases hs
 rename_i y id off vv hty hex hev
 rw [hex] at hx
 rw [hev] at hv
 obtain ⟨b1,b2⟩:=hx
 split at hs
 rotate_left
 ·cases hs
 rename_i r hrow
 simp only [gBI,gBJ] at hs
 obtain ⟨rfl,rfl⟩:=hs
 obtain ⟨c1,c2,c3,c4,c5⟩:=hc
 have hl:=A0R.cells c1 hv
 have hk:g.κ id ≠ 0:=by
  rcases h.hr.row id r hrow with ⟨_,h2⟩ | ⟨h2,_⟩
  ·rw [h2] at c5;simp at c5;omega
  exact h2
 obtain ⟨w',r1,r2⟩:=BB (P:=P) (off:=off) hk vv.cells _ 0 st w r h hrow hl c2 (by omega)
 refine ⟨w',?_,by simpa using r2⟩
 unfold execOp
 simp only [ho,Instr.storeAt,b2,Instr.sureAddr,storeVar,Sem.run_bind,Sem.run_pure,Result.andThen_ok,tyOf.size hty]
 rw [if_neg (by
  have:=hl.1
  simp at this
  simp [this,c3])]
 simp only [r1]
 rfl

/-! frozen rows -/
def C.tr:C->Option Tr
 | .v x=>if x.oneCell' then some (.v x) else none
 | .t k cs=>some (.l k cs)
 | .o k cs=>some (.l k.1 cs)
 | _=>none
def C.fz (c:C) (t:Tr):Prop:=c.tr=some t\/(c=.v (.slice none 0 0)/\∃ k,t=.l k [])
def Fz:List C->List Tr->Prop
 | [],[]=>True
 | c :: r,t :: ts=>c.fz t/\Fz r ts
 | _,_=>False
def C.frz (id k:Nat) (ts:List Tr):C->C
 | .s i n=>if i=id then (if n*k<=ts.length then .t k (ts.take (n*k)) else .u) else .s i n
 | c=>c
def A0.frz (id k:Nat) (ts:List Tr):A0->A0
 | .c x=>.c (x.frz id k ts)
 | .g xs=>.g (xs.map (C.frz id k ts))
def AV.frz (id k:Nat) (ts:List Tr):AV->AV
 | .a x=>.a (x.frz id k ts)
 | .tup xs=>.tup (xs.map (A0.frz id k ts))
def ST.frz (st:ST) (id k:Nat) (ts:List Tr):ST:={ st with tm:=st.tm.map fun p=>(p.1,p.2.frz id k ts),hp:=st.hp.set id .d }
theorem Em (f:AV->AV) (hf:f .u=.u) (tm:List (Nat × AV)) (d:Nat):Ek (tm.map fun p=>(p.1,f p.2)) d=f (Ek tm d):=by
 induction tm with
 | nil=>exact hf.symm
 | cons p r ih=>
  simp only [gAV,Ek]
  split
  ·rfl
  exact ih
theorem Fz.get:∀ {xs:List C} {ts:List Tr},Fz xs ts->ts.length=xs.length/\∀ (j:Nat) (t:Tr),ts[j]?=some t->∃ c,xs[j]?=some c/\c.fz t
 | [],[],_=>by simp
 | c :: r,t :: ts,h=>by
  obtain ⟨i1,i2⟩:=Fz.get h.2
  refine ⟨by simp [i1],fun j t' hj=>?_⟩
  cases j with
  | zero=>simp at hj;subst hj;exact ⟨c,rfl,h.1⟩
  | succ j=>exact i2 j t' (by simpa using hj)
 | [],_ :: _,h=>h.elim
 | _ :: _,[],h=>h.elim
theorem Fz.map {α:Type} {f:α->C} {g:α->Tr} {xs:List α} (h:∀ x∈xs,(f x).fz (g x)):Fz (xs.map f) (xs.map g):=by
 induction xs with
 | nil=>trivial
 | cons x r ih=>exact ⟨h x (by simp),ih fun y hy=>h y (by simp [hy])⟩
theorem Fz.append:∀ {xs ys:List C} {ts us:List Tr},Fz xs ts->Fz ys us->Fz (xs++ys) (ts++us)
 | [],_,[],_,_,k=>k
 | _ :: _,_,_ :: _,_,h,k=>⟨h.1,h.2.append k⟩
 | [],_,_ :: _,_,h,_=>h.elim
 | _ :: _,_,[],_,h,_=>h.elim
theorem Fz.flatMap {α:Type} {f:α->List C} {g:α->List Tr} {xs:List α} (h:∀ x∈xs,Fz (f x) (g x)):Fz (xs.flatMap f) (xs.flatMap g):=by
 induction xs with
 | nil=>trivial
 | cons x r ih=>exact (h x (by simp)).append (ih fun y hy=>h y (by simp [hy]))
theorem EQ {hp':List Ob} (hm:∀ b,b<w.heap.size->Ow hp' g b->Ow st.hp g b) (hr:HR g st.hp w) {id:Nat} {r:Row} (hrow:st.hp[id]?=some (.r r)) (hcl:∀ j,¬ Lv hp' g (.cl id j)) (hinj:∀ ℓ,Lv hp' g ℓ->Lv st.hp g ℓ)
  {j:Nat} {c:C} {t:Tr} {u:Value} (hj:r.cells[j]?=some c) (ht:c.fz t) (h:CellR g st.hp w id j c u):Rd (Ow hp' g) w t u:=by
 rcases ht with ht | ⟨rfl,k,rfl⟩
 rotate_left
 ·cases (show u=_ from h);exact .e _ _ _
 cases c with
 | v x=>
  simp only [C.tr] at ht
  split at ht
  ·cases ht;cases (show u=x from h);exact .v _ ‹_›
  cases ht
 | t k cs=>cases ht;exact (show Rd _ _ _ _ from h).mono hm
 | o k cs=>
  cases ht
  rcases h with ⟨h1,A,h2,_⟩ | ⟨h1,n,cp,arr,h2,h3,h4,h5,h6,h7,h8⟩
  ·rw [h1,h2];exact .e _ _ _
  rw [h2]
  have hn:0<n:=by
   rcases gBs n with h0 | h0
   ·rw [h0] at h3;simp at h3;exact absurd h3 h1
   exact h0
  refine .l k.1 cs _ 0 n cp (fun i=>(arr[i]?).getD undef) h3 hn h4 (fun ho=>?_) (Array.getElem?_eq_some_iff.1 h6).1 (fun i t hi=>?_) (fun i t hi=>?_)
  rotate_left
  ·obtain ⟨u,f1,f2⟩:=h8 i t hi
   rw [gBD,cell_of_row _ _ _ _ _ _ h6,f1];rfl
  ·obtain ⟨u,f1,f2⟩:=h8 i t hi
   rw [f1];exact f2.mono hm
  rcases ho with ho | ⟨ℓ,hl,e⟩
  ·exact hr.md (.cl id j) ⟨r,k,cs,hrow,hj,h1⟩ ho
  have:=hr.inj ℓ (.cl id j) (hinj ℓ hl) ⟨r,k,cs,hrow,hj,h1⟩ e
  exact hcl j (this ▸ hl)
 | u=>cases ht
 | s _ _=>cases ht
 | p _ _=>cases ht
 | q _ _=>cases ht
 | b _ _ _=>cases ht
 | m _=>cases ht
 | w _ _ _ _=>cases ht
 | f _ _=>cases ht
 | it _ _ _ _=>cases ht
theorem LR.map {R R' : C -> Value -> Prop} {f : C -> C} (hf : ∀ c y, R c y -> R' (f c) y) {xs : List C} {us : List Value} (h : LR R xs us) : LR R' (xs.map f) us :=
 ⟨by simp [h.1], fun i x hx => by
  rw [gAC, gBG] at hx
  obtain ⟨c, hc, rfl⟩ := hx
  obtain ⟨u, h1, h2⟩ := h.2 i c hc
  exact ⟨u, h1, hf _ _ h2⟩⟩
theorem A0R.frz {R R':C->Value->Prop} {id k:Nat} {ts:List Tr} (hf:∀ c y,R c y->R' (c.frz id k ts) y) {x:A0} {y:Value} (h:A0R R x y):A0R R' (x.frz id k ts) y:=by
 cases x with
 | c x=>exact hf _ _ h
 | g xs=>obtain ⟨us,h1,h2⟩:=h;exact ⟨us,h1,h2.map hf⟩
theorem AVR.frz {R R':C->Value->Prop} {id k:Nat} {ts:List Tr} (hf:∀ c y,R c y->R' (c.frz id k ts) y) {x:AV} {y:Value} (h:AVR R x y):AVR R' (x.frz id k ts) y:=by
 cases x with
 | a x=>exact A0R.frz hf h
 | tup xs=>
  obtain ⟨us,h1,h2,h3⟩:=h
  refine ⟨us,h1,by simp [h2],fun i x hx=>?_⟩
  rw [gAC,gBG] at hx
  obtain ⟨c,hc,rfl⟩:=hx
  obtain ⟨u,e1,e2⟩:=h3 i c hc
  exact ⟨u,e1,A0R.frz hf e2⟩
theorem RelG.freeze (h:RelG g M0 w0 st a w) {id:Nat} {r:Row} {ts:List Tr} (hrow:st.hp[id]?=some (.r r)) (hts:Fz r.cells ts) (hk:0<r.k):RelG g M0 w0 (st.frz id r.k ts) a w:=by
 have hlt:id<st.hp.length:=(List.getElem?_eq_some_iff.1 hrow).1
 have hd:∀ (i:Nat) (r':Row),(st.hp.set id .d)[i]?=some (.r r')->st.hp[i]?=some (.r r')/\i ≠ id:=by
  intro i r' e
  rw [gAE] at e
  split at e
  ·(try split at e) <;> cases e
  rename_i hne;exact ⟨e,fun e=>hne e.symm⟩
 have hdm:∀ (i:Nat) (kv:List (Value × C)),(st.hp.set id .d)[i]?=some (.m kv)->st.hp[i]?=some (.m kv):=by
  intro i kv e
  rw [gAE] at e
  split at e
  ·(try split at e) <;> cases e
  exact e
 have hb:∀ i,Bn st.hp i->Bn (st.hp.set id .d) i:=by
  intro i hi
  by_cases e:i=id
  ·subst e;exact ⟨.d,by simp [hlt],rfl⟩
  obtain ⟨o,e1,e2⟩:=hi
  exact ⟨o,by rw [gE5 (Ne.symm e)];exact e1,e2⟩
 have hkill:=h.kill hb (fun i r' e=>(hd i r' e).1) hdm
 refine ⟨hkill.hr,hkill.new,fun d=>?_,h.n,h.df,h.fp⟩
 have e1:(st.frz id r.k ts).get d=(st.get d).frz id r.k ts:=Em _ rfl st.tm d
 rw [e1]
 have hinj:∀ ℓ,Lv (st.hp.set id .d) g ℓ->Lv st.hp g ℓ:=fun ℓ hl=>Lv.sub (fun i r' e=>(hd i r' e).1) hdm hl
 have key:∀ (c:C) (y:Value),CR g st.hp w c y->CR g (st.hp.set id .d) w (c.frz id r.k ts) y:=by
  intro c y hc
  have hm:=Eb (g:=g) (w:=w) hb (fun i r' e=>(hd i r' e).1) hdm
  cases c with
  | s i n=>
   simp only [C.frz]
   split
   rotate_left
   ·exact CR.mo hm (c:=.s i n) trivial hc
   rename_i e;subst e
   split
   rotate_left
   ·trivial
   rename_i hnk
   obtain ⟨b1,b2,A,b3,b4,b5⟩:=hc
   obtain ⟨t1,t2⟩:=hts.get
   by_cases hn0:n=0
   ·subst hn0
    rw [b3]
    simp only [Nat.zero_mul,gBq]
    exact .e _ _ _
   rcases h.hr.row i r hrow with ⟨h0,h2⟩ | ⟨h0,_,arr,ha,hl,hs,_,hcells⟩
   ·omega
   rw [b3,b4 h0]
   have hcl:∀ j,¬ Lv (st.hp.set i .d) g (.cl i j):=by
    rintro j ⟨r',k,cs,e1,_⟩
    exact (hd i r' e1).2 rfl
   have hget:∀ (j:Nat) (t:Tr),(ts.take (n*r.k))[j]?=some t->∃ u,arr[j]?=some u/\Rd (Ow (st.hp.set i .d) g) w t u:=by
    intro j t hj
    rw [gAF] at hj
    split at hj
    rotate_left
    ·cases hj
    obtain ⟨c,c1,c2⟩:=t2 j t hj
    obtain ⟨u,u1,u2⟩:=hcells j c c1
    exact ⟨u,u1,EQ (fun b _ ho=>ho.imp (fun h=>h) (fun ⟨ℓ,hl,e⟩=>⟨ℓ,hinj ℓ hl,e⟩)) h.hr hrow hcl hinj c1 c2 u2⟩
   refine .l r.k _ _ 0 n (g.κ i) (fun j=>(arr[j]?).getD undef) (by rw [gAS,gBy hnk]) (by omega) b2 (fun ho=>?_) (Array.getElem?_eq_some_iff.1 ha).1 (fun j t hj=>?_) (fun j t hj=>?_)
   rotate_left
   ·obtain ⟨u,f1,_⟩:=hget j t hj
    rw [gBD,cell_of_row _ _ _ _ _ _ ha,f1];rfl
   ·obtain ⟨u,f1,f2⟩:=hget j t hj
    rw [f1];exact f2
   rcases ho with ho | ⟨ℓ,hl,e⟩
   ·exact h.hr.md (.ob i) (.inl ⟨r,hrow,h0⟩) ho
   have:=h.hr.inj ℓ (.ob i) (hinj ℓ hl) (.inl ⟨r,hrow,h0⟩) e
   subst this
   rcases hl with ⟨r',e1,_⟩ | ⟨kv,e1⟩
   ·exact (hd i r' e1).2 rfl
   have:=hdm i kv e1
   rw [hrow] at this;cases this
  | _=>exact CR.mo hm (by trivial) hc
 exact AVR.frz key (h.tm d)
end
end Go.Proofs.YtbnabodoabimnaaGreat
