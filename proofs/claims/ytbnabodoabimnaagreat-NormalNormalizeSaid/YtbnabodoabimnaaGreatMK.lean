/- Lemmas. -/
import Derived.Test.YtbnabodoabimnaaGreatAm33
import Derived.Test.YtbnabodoabimnaaGreatAe
import Derived.MapKept
import Derived.Test.YtbnabodoabimnaaGreatProg
namespace Go.Proofs.YtbnabodoabimnaaGreat
set_option linter.unusedVariables false
set_option linter.unusedSimpArgs false
open Go.RowKit
section
variable {P : Program} {T : Tb} {g : Gh} {hp : List Ob} {w : World}
theorem JP {x:AV} {y k:Value} (h:Ef x=some k) (hR:AVR (CR g hp w) x y):y=k:=by
 have cv:∀ {xs:List C} {vs:List Value},Mn xs=some vs->∀ {us:List Value},LR (CR g hp w) xs us->us=vs:=by
  intro xs
  induction xs with
  | nil=>
   intro vs e us hl
   cases e
   exact gAt hl.1
  | cons c r ih=>
   intro vs e us hl
   cases c <;> simp only [Mn,reduceCtorEq] at e
   rename_i v
   cases hr:Mn r with
   | none=>rw [hr] at e;cases e
   | some l=>
    rw [hr] at e
    cases e
    cases us with
    | nil=>exact absurd hl.1 (by simp)
    | cons u us=>
     obtain ⟨u',e1,e2⟩:=hl.2 0 (.v v) rfl
     simp at e1
     subst e1
     have:=ih hr (us:=us) ⟨by have:=hl.1;simpa using this,fun i x hx=>by simpa using hl.2 (i+1) x (by simpa using hx)⟩
     rw [this,show u=v from e2]
 unfold Ef at h
 split at h
 rotate_left 2
 ·cases h
 ·cases h;exact hR
 rename_i xs
 split at h
 rotate_left
 ·cases h
 rename_i vs hv
 cases h
 obtain ⟨us,rfl,hl⟩:=hR
 rw [cv hv hl]
def KvOk (kv:List (Value × C)) (es:List MapEntry):Prop:=es.length=kv.length/\∀ (i:Nat) (p:Value × C),kv[i]?=some p->∃ e,es[i]?=some e/\e.key=p.1
theorem KvOk.tail {p:Value × C} {kv:List (Value × C)} {e:MapEntry} {es:List MapEntry} (h:KvOk (p :: kv) (e :: es)):e.key=p.1/\KvOk kv es:=by
 obtain ⟨h1,h2⟩:=h
 obtain ⟨e',f1,f2⟩:=h2 0 p rfl
 simp at f1
 subst f1
 exact ⟨f2,by simpa using h1,fun i q hq=>by simpa using h2 (i+1) q (by simpa using hq)⟩
def VB (es:List MapEntry) (i0:Nat):Option (Nat × C)->Option (Nat × Value)
 | none=>none
 | some (i,_)=>(es[i - i0]?).map fun e=>(i,e.val)
theorem Gw {kd:TypeDesc} {s:Ks} (hk:∀ a b t,Cr s a b=some t->Instr.sameNow kd a b=some t) (key:Value):∀ (kv:List (Value × C)) (es:List MapEntry) (i:Nat) (r:Option (Nat × C)),KvOk kv es->Bd s key kv i=some r->
  Instr.findNow kd key es i=some (VB es i r)/\∀ j c,r=some (j,c)->i<=j/\(∃ q,kv[j - i]?=some (q,c))/\∃ k,kv[j - i]?=some (k,c)/\Cr s key k=some true
 | [],es,i,r,hk',h=>by
  have:es=[]:=gAt hk'.1
  subst this
  cases h
  exact ⟨rfl,fun j c e=>by cases e⟩
 | (k,c) :: kv,es,i,r,hk',h=>by
  cases es with
  | nil=>exact absurd hk'.1 (by simp)
  | cons e es=>
   obtain ⟨e1,e2⟩:=hk'.tail
   simp only at e1
   unfold Bd at h
   split at h
   ·rename_i ht
    cases h
    refine ⟨by simp [Instr.findNow,e1,hk _ _ _ ht,VB],fun j c' e=>?_⟩
    cases e
    exact ⟨gBu _,⟨k,by simp⟩,k,by simp,ht⟩
   ·rename_i ht
    obtain ⟨h1,h2⟩:=Gw hk key kv es (i+1) r e2 h
    refine ⟨?_,fun j c' e=>?_⟩
    ·simp only [Instr.findNow,e1,hk _ _ _ ht,h1]
     cases r with
     | none=>rfl
     | some p=>
      obtain ⟨j,c'⟩:=p
      obtain ⟨h3,_⟩:=h2 j c' rfl
      simp only [VB]
      rw [show j - i=(j - (i+1))+1 from by omega]
      simp
    ·obtain ⟨h3,⟨q,h4⟩,k',h5,h6⟩:=h2 j c' e
     rw [show j - i=(j - (i+1))+1 from by omega]
     exact ⟨by omega,⟨q,by simpa using h4⟩,k',by simpa using h5,h6⟩
   ·cases h
theorem Gx {kt:TypeId} {s:Ks} (hk:∀ a b t,Cr s a b=some t->∀ w,(Op.equal kt a b).run P w=.ok t w) (key:Value) (w:World):∀ (kv:List (Value × C)) (es:List MapEntry) (i:Nat) (r:Option (Nat × C)),KvOk kv es->Bd s key kv i=some r->
  (Instr.findAsking kt key es i).run P w=.ok (VB es i r) w/\∀ j c,r=some (j,c)->i<=j/\∃ k,kv[j - i]?=some (k,c)/\Cr s key k=some true
 | [],es,i,r,hk',h=>by
  have:es=[]:=gAt hk'.1
  subst this
  cases h
  exact ⟨by simp [Instr.findAsking,VB],fun j c e=>by cases e⟩
 | (k,c) :: kv,es,i,r,hk',h=>by
  cases es with
  | nil=>exact absurd hk'.1 (by simp)
  | cons e es=>
   obtain ⟨e1,e2⟩:=hk'.tail
   simp only at e1
   unfold Bd at h
   split at h
   ·rename_i ht
    cases h
    refine ⟨by simp [Instr.findAsking,e1,hk _ _ _ ht w,VB],fun j c' e=>?_⟩
    cases e
    exact ⟨gBu _,k,by simp,ht⟩
   ·rename_i ht
    obtain ⟨h1,h2⟩:=Gx hk key w kv es (i+1) r e2 h
    refine ⟨?_,fun j c' e=>?_⟩
    ·simp only [Instr.findAsking,e1,Sem.run_bind,hk _ _ _ ht w,Result.andThen_ok,gA5,if_false,h1]
     cases r with
     | none=>rfl
     | some p=>
      obtain ⟨j,c'⟩:=p
      obtain ⟨h3,_⟩:=h2 j c' rfl
      simp only [VB]
      rw [show j - i=(j - (i+1))+1 from by omega]
      simp
    ·obtain ⟨h3,k',h5,h6⟩:=h2 j c' e
     rw [show j - i=(j - (i+1))+1 from by omega]
     exact ⟨by omega,k',by simpa using h5,h6⟩
   ·cases h
theorem IV {kt:TypeId} {s:Ks} (hk:KeyOk P kt s) (key:Value) (w:World) {kv:List (Value × C)} {es:List MapEntry} {r:Option (Nat × C)} (h:KvOk kv es) (hf:Bd s key kv 0=some r):
  (Instr.findKey kt key es).run P w=.ok (VB es 0 r) w/\∀ j c,r=some (j,c)->∃ k,kv[j]?=some (k,c)/\Cr s key k=some true:=by
 obtain ⟨kd,hu,hk1 | hk2⟩:=hk.eq
 ·obtain ⟨h1,h2⟩:=Gw hk1 key kv es 0 r h hf
  refine ⟨MapKept.run_findKey hu h1,fun j c e=>?_⟩
  obtain ⟨_,_,k,h3,h4⟩:=h2 j c e
  exact ⟨k,by simpa using h3,h4⟩
 obtain ⟨h1,h2⟩:=Gx (fun a b t e=>(hk2 a b t e).2) key w kv es 0 r h hf
 refine ⟨?_,fun j c e=>?_⟩
 rotate_left
 ·obtain ⟨_,k,h3,h4⟩:=h2 j c e
  exact ⟨k,by simpa using h3,h4⟩
 cases kv with
 | nil=>
  have:es=[]:=gAt h.1
  subst this
  cases hf
  exact MapKept.run_findKey hu rfl
 | cons p kv=>
  cases es with
  | nil=>exact absurd h.1 (by simp)
  | cons e es=>
   obtain ⟨e1,_⟩:=h.tail
   have hn:Instr.findNow kd key (e :: es) 0=none:=by
    unfold Bd at hf
    split at hf
    ·rename_i ht;simp [Instr.findNow,e1,(hk2 _ _ _ ht).1]
    ·rename_i ht;simp [Instr.findNow,e1,(hk2 _ _ _ ht).1]
    cases hf
   simp only [Instr.findKey,Sem.run_bind,run_underlying hu,Result.andThen_ok,hn]
   exact h1
end
theorem RelG.mobj {g:Gh} {M0:Nat->Prop} {w0 w:World} {st:ST} {a:Act} (h:RelG g M0 w0 st a w) {id:Nat} {kv kv':List (Value × C)} {ob':Obj} (hm:st.hp[id]?=some (.m kv))
  (hnw:Mo g st.hp w g (st.hp.set id (.m kv')) { w with heap:=w.heap.setIfInBounds (g.γ (.ob id)) ob' } (fun _=>True)->(w.heap.setIfInBounds (g.γ (.ob id)) ob')[g.γ (.ob id)]?=some ob'->MpR g (st.hp.set id (.m kv')) { w with heap:=w.heap.setIfInBounds (g.γ (.ob id)) ob' } id kv'):
  Mo g st.hp w g (st.hp.set id (.m kv')) { w with heap:=w.heap.setIfInBounds (g.γ (.ob id)) ob' } (fun _=>True)/\RelG g M0 w0 { st with hp:=st.hp.set id (.m kv') } a { w with heap:=w.heap.setIfInBounds (g.γ (.ob id)) ob' }:=by
 have hlt:id<st.hp.length:=(List.getElem?_eq_some_iff.1 hm).1
 have hlid:Lv st.hp g (.ob id):=.inr ⟨kv,hm⟩
 have hne:∀ i,i ≠ id->(st.hp.set id (.m kv'))[i]?=st.hp[i]?:=fun i hi=>by rw [gE5 (Ne.symm hi)]
 have h1:(st.hp.set id (.m kv'))[id]?=some (.m kv'):=by simp [hlt]
 have hfx:∀ b,b ≠ g.γ (.ob id)->(w.heap.setIfInBounds (g.γ (.ob id)) ob')[b]?=w.heap[b]?:=fun b hb=>by simp [Array.getElem?_setIfInBounds,Ne.symm hb]
 have hrow:∀ i r,(st.hp.set id (.m kv'))[i]?=some (.r r)->i ≠ id/\st.hp[i]?=some (.r r):=by
  intro i r e
  by_cases hi:i=id
  ·subst hi;rw [h1] at e;cases e
  exact ⟨hi,by rw [<- hne i hi];exact e⟩
 have hsub:∀ ℓ,Lv (st.hp.set id (.m kv')) g ℓ->Lv st.hp g ℓ:=by
  intro ℓ hl
  cases ℓ with
  | ob i=>
   by_cases e:i=id
   ·subst e;exact hlid
   rcases hl with ⟨r',e1,e2⟩ | ⟨kv,e1⟩
   ·exact .inl ⟨r',by rw [<- hne i e];exact e1,e2⟩
   exact .inr ⟨kv,by rw [<- hne i e];exact e1⟩
  | cl i j=>
   obtain ⟨r',k,cs,e1,e2,e3⟩:=hl
   exact ⟨r',k,cs,(hrow i r' e1).2,e2,e3⟩
 have far:∀ ℓ,Lv st.hp g ℓ->ℓ ≠ .ob id->(w.heap.setIfInBounds (g.γ (.ob id)) ob')[g.γ ℓ]?=w.heap[g.γ ℓ]?:=fun ℓ hl hn=>hfx _ (fun he=>hn (h.hr.inj _ _ hl hlid he))
 have hmo:Mo g st.hp w g (st.hp.set id (.m kv')) { w with heap:=w.heap.setIfInBounds (g.γ (.ob id)) ob' } (fun _=>True):=by
  refine ⟨fun i hi=>⟨?_,rfl,rfl⟩,fun b _ ho=>ho.elim .inl (fun ⟨ℓ,hl,e⟩=>.inr ⟨ℓ,hsub ℓ hl,e⟩),by simp,fun b hb ho=>hfx b (fun e=>ho (.inr ⟨.ob id,hlid,e.symm⟩)),fun i _ hi r' j k cs e1 e2=>?_⟩
  ·by_cases e:i=id
   ·subst e;exact ⟨_,h1,rfl⟩
   obtain ⟨o,e1,e2⟩:=hi
   exact ⟨o,by rw [hne i e];exact e1,e2⟩
  obtain ⟨hi',e3⟩:=hrow i r' e1
  refine ⟨r',e3,e2,fun _=>World.cell?_of_block (hfx _ (fun he=>?_))⟩
  by_cases h0:g.κ i=0
  ·rcases h.hr.row i r' e3 with ⟨_,h2⟩ | ⟨h2,_⟩
   ·rw [h2] at e2;simp at e2
   exact h2 h0
  have:=h.hr.inj (.ob i) (.ob id) (.inl ⟨r',e3,h0⟩) hlid he
  injection this with this
  exact hi' this
 refine ⟨hmo,h.mo hmo ⟨fun q hq=>by simpa using h.hr.ml q hq,fun ℓ hl=>h.hr.md ℓ (hsub ℓ hl),fun ℓ ℓ' h1 h2 e=>h.hr.inj _ _ (hsub _ h1) (hsub _ h2) e,fun i r e=>?_,fun i kv2 e=>?_,hmo.gl h.hr.gl⟩ (fun ℓ hl=>h.new ℓ (hsub ℓ hl)) ?_⟩
 ·obtain ⟨hi,e3⟩:=hrow i r e
  exact RowR.mo hmo e3 (h.hr.row i r e3) (fun h0=>far _ (.inl ⟨r,e3,h0⟩) (by simpa using hi)) (fun j k cs hj hn=>⟨rfl,far _ ⟨r,k,cs,e3,hj,hn⟩ (by simp)⟩)
 ·by_cases hi:i=id
  ·subst hi
   rw [h1] at e
   cases e
   refine hnw hmo ?_
   have:=h.hr.lt hlid
   simp [this]
  rw [hne i hi] at e
  exact MpR.mo hmo e (h.hr.mp i kv2 e) (far _ (.inr ⟨kv2,e⟩) (by simpa using hi))
 refine ⟨h.fp.os,h.fp.tape,h.fp.output,by simpa using h.fp.size,fun k hk' hM=>?_,h.fp.drawn⟩
 rw [<- h.fp.block k hk' hM]
 refine hfx k (fun e=>?_)
 rcases h.new (.ob id) hlid with h2 | h2
 ·exact hM (by rw [e];exact h2)
 omega
theorem RelG.mapset {g : Gh} {M0 : Nat -> Prop} {w0 w : World} {st : ST} {a : Act} (h : RelG g M0 w0 st a w) {id : Nat} {kv kv' : List (Value × C)} {es' : Array MapEntry} {clock : Nat} (hm : st.hp[id]? = some (.m kv)) (hs : es'.size = kv'.length)
  (hc : ∀ (i : Nat) (p : Value × C), kv'[i]? = some p -> (∃ e : MapEntry, es'[i]? = some e /\ e.key = p.1 /\ CellR g st.hp w id 0 p.2 e.val) /\ ∀ k cs, p.2 ≠ .o k cs) (hb : Bo es' clock) :
  RelG g M0 w0 { st with hp := st.hp.set id (.m kv') } a { w with heap := w.heap.setIfInBounds (g.γ (.ob id)) (.map es' clock) } :=
 (h.mobj hm fun hmo hh => .inr ⟨es', clock, hh, hs, fun j p hp => by
  obtain ⟨⟨e, f1, f2, f3⟩, f4⟩ := hc j p hp
  exact ⟨⟨e, f1, f2, CellR.mo hmo f3 fun k cs hx => absurd hx (f4 k cs)⟩, f4⟩, hb⟩).2
theorem MpR.map {g:Gh} {hp:List Ob} {w:World} {id:Nat} {kv:List (Value × C)} {s:Ks} {key:Value} {r:Option (Nat × C)} (h:MpR g hp w id kv) (hf:Bd s key kv 0=some r):U8 g hp w id kv:=by
 rcases h with ⟨mid,since,seen,last,rfl,_⟩ | h
 rotate_left
 ·exact h
 exfalso
 have e:Cr s key (.bool true)=none:=by
  unfold Cr
  split <;> simp_all
 simp [U9,Bd,e] at hf
end Go.Proofs.YtbnabodoabimnaaGreat
namespace Go.Proofs.YtbnabodoabimnaaGreat
set_option linter.unusedVariables false
set_option linter.unusedSimpArgs false
open Go.RowKit
section
variable {P : Program} {T : Tb} {o : Oper} {st : ST} {K : ST -> Prop}
theorem tyOf.map {t:TypeId} {y:Ty} (h:tyOf P t=some y) (hk:y.kind=3) {kt e:TypeId} (hu:P.underlying t=some (.map kt e)):y.elem=e:=by
 obtain ⟨i,u,z,hi,hu',hz,hd,rfl⟩:=Dh h
 rw [hu] at hu'
 cases hu'
 rfl
theorem GR {v:AV} (hd:Vc o st.n=true) (h:∀ (g:Gh) (w:World) (ρ:Operand->Value),HR g st.hp w->(∀ x,AVR (CR g st.hp w) (st.ev x) (ρ x))->∃ u,(execOp ρ o).run P w=.ok (.value u) w/\AVR (CR g st.hp w) v u)
  (hk:K (st.put o.dst v)):Stp P o st K:=by
 intro M0 w0 a w N Q hR hN
 obtain ⟨g,⟨hp1,hp2⟩,hR⟩:=hR
 obtain ⟨u,h1,h2⟩:=h g w a.eval hR.hr hR.ev
 unfold Oper.wp
 rw [h1]
 exact hN _ _ _ hk ⟨g,⟨by cases o.dst <;> exact hp1,by cases o.dst <;> exact hp2⟩,hR.put (B5 hd) h2⟩
theorem QT {t:TypeId} (hu:P.underlying t=some .bool) (a b:Bool) (W:World):(Op.equal t (.bool a) (.bool b)).run P W=.ok (a == b) W:=by
 unfold Op.equal Op.maxDepth
 show (Op.equalIn (9999+1) _ _ _).run P W=_
 unfold Op.equalIn
 simp only [Sem.run_bind,run_underlying hu,Result.andThen_ok]
 rfl
theorem Q9 {g:Gh} {hp:List Ob} {w:World} {z i off n:Nat} {x:AV} {y:Value} (h:Q8 z x=some (i,off,n)) (h0:0<n) (hR:AVR (CR g hp w) x y):∃ c,y=.slice (some ⟨g.γ (.ob i),off*z,none⟩) n c:=by
 unfold Q8 at h
 split at h
 rotate_left 2
 ·cases h
 ·cases h
  obtain ⟨_,h1,A,h2,h3,_⟩:=hR
  exact ⟨g.κ i,by rw [h2,h3 (by omega)];simp⟩
 rename_i id2 off2 n2 zz
 obtain ⟨hc,he⟩:=Uh h
 cases he
 have hc:zz=z:=by simpa [U7] using hc
 subst hc
 obtain ⟨_,_,_,h2⟩:=hR
 exact ⟨_,h2⟩
theorem JQ (hd:Vc o st.n=true) {d s:Operand} {t t':TypeId} {y z:Ty} (ho:o.op=.call ⟨.builtin .copy,#[d,s],#[t,t']⟩) (hty:tyOf P t=some y) (hk:y.kind=1) (hz:tyOf P y.elem=some z) {i off n j p m:Nat}
  (hdst:Q8 z.size (st.ev d)=some (i,off,n)) (hsrc:Q8 z.size (st.ev s)=some (j,p,m)) {r r':Row} (hi:st.hp[i]?=some (.r r)) (hj:st.hp[j]?=some (.r r')) {l:Nat} (hl:l=min m n) (h0:0<l) (hz0:0<z.size)
  {cs:List C} (hcs:cs=(r'.cells.drop (p*z.size)).take (l*z.size)) (hone:cs.all C.one=true) (hlen:cs.length=l*z.size) (hfit:off*z.size+l*z.size<=r.cells.length)
  (h:K ({ st with hp:=st.hp.set i (.r { r with cells:=De r.cells (off*z.size) cs }) }.put o.dst (.i (l:Nat)))):Stp P o st K:=by
 intro M0 w0 a w N Q hR hN
 obtain ⟨g,⟨hp1,hp2⟩,hR⟩:=hR
 have hpos:0<l*z.size:=Nat.mul_pos h0 hz0
 obtain ⟨c1,e1⟩:=Q9 hdst (by omega) (hR.ev d)
 obtain ⟨c2,e2⟩:=Q9 hsrc (by omega) (hR.ev s)
 have hki:g.κ i ≠ 0:=by
  rcases hR.hr.row i r hi with ⟨_,h2⟩ | ⟨h2,_⟩
  ·rw [h2] at hfit;simp at hfit;omega
  exact h2
 rcases hR.hr.row j r' hj with ⟨_,h2⟩ | ⟨hkj,_,arr,ha,hla,hs,_,hcells⟩
 ·rw [hcs,h2] at hlen;simp at hlen;omega
 have hlr:LR (CR g st.hp w) cs ((arr.toList.drop (p*z.size)).take (l*z.size)):=by
  have hle:p*z.size+l*z.size<=r'.cells.length:=by
   rw [hcs] at hlen
   simp at hlen
   omega
  refine ⟨by rw [hlen];simp;omega,fun q c hq=>?_⟩
  have h1:=gAg.1 hone c (gE9 hq)
  rw [hcs,gAF] at hq
  rw [gAF]
  split at hq
  rotate_left
  ·cases hq
  rename_i hlt
  rw [gAA] at hq ⊢
  obtain ⟨u,f1,f2⟩:=hcells _ c hq
  exact ⟨u,by rw [if_pos hlt];simpa using f1,f2.cr (by cases c <;> first | rfl | cases h1)⟩
 have hload:(loadCells ⟨g.γ (.ob j),p*z.size,none⟩ (l*z.size)).run P w=.ok ((arr.toList.drop (p*z.size)).take (l*z.size)).toArray w:=by
  unfold loadCells
  rw [BE _ _ _ 0 ((arr.toList.drop (p*z.size)).take (l*z.size)) #[] (by rw [hlr.1,hlen]) (fun q u hq=>?_)]
  ·simp
  rw [gBD,cell_of_row _ _ _ _ _ _ ha]
  rw [gAF] at hq
  split at hq
  rotate_left
  ·cases hq
  rw [gAA] at hq
  simpa using hq
 obtain ⟨w',r1,r2⟩:=BB (P:=P) (off:=off*z.size) hki cs _ 0 st w r hR hi hlr hone (by omega)
 have hrun:(execOp a.eval o).run P w=.ok (.value (.int .i64 l)) w':=by
  have hn:Nat.min m n=l:=hl.symm
  unfold execOp
  simp only [ho,resolve,invoke,builtin,Sem.run_bind,Sem.run_pure,Result.andThen_ok,gAZ,gAV,gAX,e1,e2]
  simp [Builtin.copy_,run_underlying (tyOf.slice hty hk),Builtin.lenOf,Builtin.firstCells,tyOf.size hz,hn,hload,r1,goInt]
 unfold Oper.wp
 rw [hrun]
 exact hN _ _ _ h ⟨g,⟨by cases o.dst <;> (simp [ST.put];omega),by cases o.dst <;> exact hp2⟩,RelG.put (st:={ st with hp:=st.hp.set i (.r { r with cells:=De r.cells (off*z.size) cs }) }) (by simpa using r2) (B5 hd) rfl⟩
theorem Mp {P:Program} {f:Value->ByteArray->Sem (ForInStep ByteArray)} (hf:∀ (n:Int) (s:ByteArray) (w:World),(f (.int .u8 n) s).run P w=.ok (ForInStep.yield (s.push (UInt8.ofNat n.toNat))) w) (l:List Int) (w:World):
  ∀ (s:ByteArray),(forIn (l.map (Value.int .u8)).toArray s f:Sem ByteArray).run P w=.ok ⟨⟨s.data.toList++l.map (fun n=>UInt8.ofNat n.toNat)⟩⟩ w:=by
 induction l with
 | nil=>intro s;simp
 | cons x l ih=>
  intro s
  have:=ih (s.push (UInt8.ofNat x.toNat))
  simp only [List.forIn_toArray] at this ⊢
  simp only [gAV,List.forIn_cons,Sem.run_bind,hf,Result.andThen_ok,this]
  simp [ByteArray.push]
end
end Go.Proofs.YtbnabodoabimnaaGreat
