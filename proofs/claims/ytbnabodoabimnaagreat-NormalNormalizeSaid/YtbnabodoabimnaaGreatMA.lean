/- Lemmas. -/
import Derived.Test.YtbnabodoabimnaaGreatBase
import Derived.IntWalk
namespace Go.Proofs.YtbnabodoabimnaaGreat
set_option linter.unusedVariables false
set_option linter.unusedSimpArgs false
theorem FA {p:Program} {w w':World} {at_:Addr} {u:TypeId} {k:Addr} {v:Value} {atomic:Bool} {l:List Addr} (h:w.viewStore p at_ u k v atomic=.ok (w',l)):w'.drawn=w.drawn:=by
 unfold World.viewStore at h
 simp only [bind,Except.bind,pure,Except.pure,throw,throwThe,MonadExceptOf.throw] at h
 repeat' split at h
 all_goals first
  | (cases h;done)
  | (cases h;rfl)
theorem LY {α:Type} (a:Ask α):∀ (w:World),w.drawn<=(w.ask a).2.drawn:=by
 induction a with
 | done a=>intro w;exact gBu _
 | ask what range k ih=>
  intro w
  unfold World.ask
  simp only
  split
  ·exact ih _ _
  exact gBv (Nat.le_succ _) (ih _ { w with drawn:=w.drawn+1 })
theorem LZ (w:World) (c:Sys):w.drawn<=(w.sys c).2.drawn:=by
 have h:=LY (Kernel.perform c w.os) w
 unfold World.sys
 split
 ·exact gBu _
 rename_i r os w' he
 rw [he] at h
 exact h
theorem Ge {p:Program} {w w':World} {a:Addr} {v:Value} {at_:Bool} {l:List Addr} (h:w.farStore p a v at_=.ok (w',l)):w'.drawn=w.drawn:=by
 unfold World.farStore at h
 split at h
 rotate_left
 ·cases h
 split at h
 ·rename_i r he;cases h;exact FA he
 cases h
theorem Hz {α:Type} {P:Program} (m:Sem α):∀ {w:World} {v:α} {w':World},m.run P w=.ok v w'->w.drawn<=w'.drawn:=by
 induction m with
 | pure a=>intro w v w' h;unfold Sem.run at h;cases h;exact gBu _
 | load m a k ih=>
  intro w v w' h
  unfold Sem.run at h
  split at h
  ·exact ih _ h
  split at h
  ·exact ih _ h
  cases h
 | store m a u k ih=>
  intro w v w' h
  have main:(match w.cell? a with
    | some _=>if w.frozen? a then .halt (.unsupported (.unsafePointer "a write to bytes that a string shares")) w else k.run P (w.setCell a u)
    | none=>match w.farStore P a u (m == .atomic) with
     | .ok (w,_)=>k.run P w
     | .error h=>.halt h w)=Result.ok v w'->w.drawn<=w'.drawn:=by
   intro h
   split at h
   ·split at h
    ·cases h
    ·exact ih (w:=w.setCell a u) h
   ·split at h
    ·rename_i he;rw [<- Ge he];exact ih h
    ·cases h
  cases u <;> first | (exact main h) | (cases h)
 | new o k ih=>intro w v w' h;unfold Sem.run at h;exact ih _ (w:={ w with heap:=w.heap.push o }) h
 | shape r k ih=>intro w v w' h;unfold Sem.run at h;exact ih _ h
 | freeze a n k ih=>
  intro w v w' h
  unfold Sem.run at h
  have e:(w.freeze a n).drawn=w.drawn:=by unfold World.freeze;split <;> rfl
  rw [<- e];exact ih h
 | frozen a k ih=>intro w v w' h;unfold Sem.run at h;exact ih _ h
 | getObj r k ih=>
  intro w v w' h
  unfold Sem.run at h
  split at h
  ·cases h
  ·exact ih _ h
  cases h
 | setObj r o k ih=>
  intro w v w' h
  unfold Sem.run at h
  split at h
  ·cases h
  ·exact ih (w:={ w with heap:=w.heap.setIfInBounds r o }) h
  cases h
 | choose q k ih=>
  intro w v w' h
  unfold Sem.run at h
  split at h
  ·exact ih _ h
  exact gBv (Nat.le_succ _) (ih _ (w:={ w with drawn:=w.drawn+1 }) h)
 | sys c k ih=>intro w v w' h;unfold Sem.run at h;exact gBv (LZ w c) (ih _ h)
 | program k ih=>intro w v w' h;unfold Sem.run at h;exact ih _ h
 | mark m k ih=>intro w v w' h;unfold Sem.run at h;exact ih h
 | halt h0=>intro w v w' h;unfold Sem.run at h;cases h
end Go.Proofs.YtbnabodoabimnaaGreat
namespace Go.Proofs.YtbnabodoabimnaaGreat
set_option linter.unusedVariables false
set_option linter.unusedSimpArgs false
open Go.RowKit
/-! worlds that differ only in blocks of M -/
structure Fp (M:Nat->Prop) (w w':World):Prop where
 os:w'.os=w.os
 tape:w'.tape=w.tape
 output:w'.output=w.output
 size:w.heap.size<=w'.heap.size
 block:∀ k,k<w.heap.size->¬ M k->w'.heap[k]?=w.heap[k]?
 drawn:w.drawn<=w'.drawn
section
variable {M M' : Nat -> Prop} {a b c w w' : World}
theorem Fp.refl (M:Nat->Prop) (w:World):Fp M w w:=⟨rfl,rfl,rfl,gBu _,fun _ _ _=>rfl,gBu _⟩
theorem Fp.trans (h : Fp M a b) (k : Fp M b c) : Fp M a c :=
 ⟨k.os.trans h.os, k.tape.trans h.tape, k.output.trans h.output, gBv h.size k.size,
  fun i hi hm => (k.block i (gBw hi h.size) hm).trans (h.block i hi hm), gBv h.drawn k.drawn⟩
theorem Fp.mono (h:Fp M a b) (hs:∀ k,k<a.heap.size->M k->M' k):Fp M' a b:=
 ⟨h.os,h.tape,h.output,h.size,fun k hk hm=>h.block k hk (fun hin=>hm (hs k hk hin)),h.drawn⟩
theorem Fp.alloc (w:World) (o:Obj) (M:Nat->Prop):Fp M w (w.alloc o):=⟨rfl,rfl,rfl,by simp,fun k hk _=>Below.heap_alloc _ _ _ hk,gBu _⟩
theorem Fp.drew (w:World) (M:Nat->Prop):Fp M w w.drew:=⟨rfl,rfl,rfl,gBu _,fun _ _ _=>rfl,Nat.le_succ _⟩
theorem Fp.setCell {p:Addr} (hp:M p.block) (w:World) (u:Value):Fp M w (w.setCell p u):=
 ⟨rfl,rfl,rfl,by simp [World.setCell],fun k _ hm=>Below.heap_setCell _ _ _ _ (by rintro rfl;exact hm hp),gBu _⟩
theorem Fp.fr {L:List Nat} (h:Fp M w w') (hs:∀ k,k<w.heap.size->M k->k∈L):Fr L w w':=
 ⟨h.os,h.tape,h.output,h.size,fun k hk hm=>h.block k hk (fun hin=>hm (hs k hk hin))⟩
theorem Fp.cell (h:Fp M w w') {p:Addr} (hp:p.block<w.heap.size) (hm:¬ M p.block):w'.cell? p=w.cell? p:=World.cell?_of_block (h.block p.block hp hm)
end

/-! trees: what a frozen slice reads as; the cells of its elements in a row -/
inductive Tr where
 | v (x:Value)
 | l (k:Nat) (cs:List Tr)

inductive Rd (M : Nat -> Prop) (w : World) : Tr -> Value -> Prop where
 | v (x : Value) (h : x.oneCell' = true) : Rd M w (.v x) x
 | e (k : Nat) (A : Option Addr) (c : Nat) : Rd M w (.l k []) (.slice A 0 c)
 | l (k : Nat) (cs : List Tr) (b off n c : Nat) (us : Nat -> Value) (hn : cs.length = n * k) (h0 : 0 < n) (hc : n <= c) (hM : ¬ M b) (hb : b < w.heap.size)
   (h1 : ∀ (j : Nat) (t : Tr), cs[j]? = some t -> w.cell? ⟨b, off + j, none⟩ = some (us j)) (h2 : ∀ (j : Nat) (t : Tr), cs[j]? = some t -> Rd M w t (us j)) :
   Rd M w (.l k cs) (.slice (some ⟨b, off, none⟩) n c)

theorem Rd.keep {M M':Nat->Prop} {w w':World} {t:Tr} {v:Value} (h:Rd M w t v) (hz:w.heap.size<=w'.heap.size) (hb:∀ k,k<w.heap.size->¬ M k->w'.heap[k]?=w.heap[k]?)
  (hm:∀ k,k<w.heap.size->M' k->M k):Rd M' w' t v:=by
 induction h with
 | v x h=>exact .v x h
 | e k A c=>exact .e k A c
 | l k cs b off n c us hn h0 hc hM hlt h1 h2 ih=>
  refine .l k cs b off n c us hn h0 hc (fun hin=>hM (hm b hlt hin)) (gBw hlt hz) (fun j t hj=>?_) ih
  rw [World.cell?_of_block (hb b hlt hM)]
  exact h1 j t hj
theorem Rd.fp {M:Nat->Prop} {w w':World} {t:Tr} {v:Value} (h:Rd M w t v) (hf:Fp M w w'):Rd M w' t v:=h.keep hf.size hf.block (fun _ _ h=>h)
theorem Rd.mono {M M':Nat->Prop} {w:World} {t:Tr} {v:Value} (h:Rd M w t v) (hm:∀ k,k<w.heap.size->M' k->M k):Rd M' w t v:=h.keep (gBu _) (fun _ _ _=>rfl) hm

/-! cells, values, objects, states -/
inductive C where
 | u
 | v (x:Value)
 | t (k:Nat) (cs:List Tr)
 | s (id n:Nat)
 | p (id off:Nat)
 | q (cs:List Tr) (off:Nat)
 | o (k:Nat × Nat) (cs:List Tr)
 | b (id j n:Nat)
 | m (id:Nat)
 | w (id off n k:Nat)
 | f (fn:FuncId) (ids:List Nat)
 | it (mid:Option Nat) (since:Nat) (seen:List Nat) (last:Nat)
inductive A0 where
 | c (x:C)
 | g (xs:List C)
inductive AV where
 | a (x:A0)
 | tup (xs:List A0)
structure Row where
 e:TypeId
 k:Nat
 sl:Bool
 cells:List C
inductive Ob where
 | x
 | d
 | r (row:Row)
 | m (kv:List (Value × C))
def Ob.born:Ob->Bool
 | .x=>false
 | _=>true
structure ST where
 tm:List (Nat × AV)
 hp:List Ob
 n:Nat
 pin:Nat

def AV.u:AV:=.a (.c .u)
def Ek:List (Nat × AV)->Nat->AV
 | [],_=>.u
 | (k,x) :: r,d=>if d=k then x else Ek r d
def ST.get (st:ST) (d:Nat):AV:=Ek st.tm d
def ST.put (st:ST) (d:Option Nat) (x:AV):ST:=
 match d with
 | some d=>{ st with tm:=(d,x) :: st.tm }
 | none=>st
def SZ:List (Nat × List Value):=[]
def Om (n:Nat):AV:=match SZ.lookup n with
 | some vs=>.a (.c (.q (vs.map .v) 0))
 | none=>.u
def ST.ev (st:ST):Operand->AV
 | .tmp t=>st.get t
 | .const v=>.a (.c (.v v))
 | .global n=>Om n
 | .func f=>.a (.c (.f f []))

inductive Loc where
 | ob (id:Nat)
 | cl (id j:Nat)
 deriving DecidableEq
structure Gh where
 γ:Loc->Nat
 κ:Nat->Nat
 M:Nat->Prop
def Lv (hp:List Ob) (g:Gh):Loc->Prop
 | .ob id=>(∃ r,hp[id]?=some (.r r)/\g.κ id ≠ 0)\/(∃ kv,hp[id]?=some (.m kv))
 | .cl id j=>∃ r k cs,hp[id]?=some (.r r)/\r.cells[j]?=some (.o k cs)/\cs ≠ []
def Bn (hp:List Ob) (id:Nat):Prop:=∃ o,hp[id]?=some o/\o.born=true
def Ow (hp:List Ob) (g:Gh) (b:Nat):Prop:=g.M b\/∃ ℓ,Lv hp g ℓ/\g.γ ℓ=b
theorem Lv.bn {hp:List Ob} {g:Gh} {id:Nat} (h:Lv hp g (.ob id)):Bn hp id:=by
 rcases h with ⟨r,h,_⟩ | ⟨kv,h⟩ <;> exact ⟨_,h,rfl⟩

def V2 (g:Gh) (fn:FuncId) (ids:List Nat):Value:=.func (.func fn) #[] (ids.map fun id=>Value.pointer (some ⟨g.γ (.ob id),0,none⟩)).toArray

def CR (g:Gh) (hp:List Ob) (w:World):C->Value->Prop
 | .u,_=>True
 | .v x,y=>y=x
 | .t k cs,y=>Rd (Ow hp g) w (.l k cs) y
 | .s id n,y=>Bn hp id/\n<=g.κ id/\∃ A,y=.slice A n (g.κ id)/\(g.κ id ≠ 0->A=some ⟨g.γ (.ob id),0,none⟩)/\∀ a,A=some a->a.block<w.heap.size
 | .p id off,y=>Bn hp id/\y=.pointer (some ⟨g.γ (.ob id),off,none⟩)
 | .q cs off,y=>∃ (b o:Nat) (us:Nat->Value),y=.pointer (some ⟨b,o+off,none⟩)/\¬ Ow hp g b/\b<w.heap.size/\(∀ (j:Nat) (t:Tr),cs[j]?=some t->w.cell? ⟨b,o+j,none⟩=some (us j))/\
  ∀ (j:Nat) (t:Tr),cs[j]?=some t->Rd (Ow hp g) w t (us j)
 | .o _ _,_=>False
 | .b id j n,y=>Bn hp id/\∀ (r:Row) (k:Nat × Nat) (cs:List Tr),hp[id]?=some (.r r)->r.cells[j]?=some (.o k cs)->g.γ (.ob id)<w.heap.size/\w.cell? ⟨g.γ (.ob id),j,none⟩=some y/\cs.length=n*k.1/\∃ A c,y=.slice A n c
 | .m id,y=>Bn hp id/\y=.map (some (g.γ (.ob id)))
 | .w id off n k,y=>Bn hp id/\off<g.κ id/\off+n<=g.κ id/\y=.slice (some ⟨g.γ (.ob id),off*k,none⟩) n (g.κ id - off)
 | .f fn ids,y=>(∀ id∈ids,Bn hp id)/\y=V2 g fn ids
 | .it _ _ _ _,_=>False

def UM (g : Gh) (hp : List Ob) (w : World) (id j : Nat) (k : Nat × Nat) (cs : List Tr) (y : Value) : Prop :=
 (cs = [] /\ ∃ A, y = .slice A 0 0 /\ ∀ a, A = some a -> a.block < w.heap.size) \/ (cs ≠ [] /\ ∃ (n c : Nat) (arr : Array Value), y = .slice (some ⟨g.γ (.cl id j), 0, none⟩) n c /\ cs.length = n * k.1 /\ n <= c /\ c <= 9223372036854775807 /\
  w.heap[g.γ (.cl id j)]? = some (.cells arr k.2 (0, 0)) /\ arr.size = c * k.1 /\ ∀ (i : Nat) (t : Tr), cs[i]? = some t -> ∃ u, arr[i]? = some u /\ Rd (Ow hp g) w t u)
def CellR (g:Gh) (hp:List Ob) (w:World) (id j:Nat):C->Value->Prop
 | .o k cs,y=>UM g hp w id j k cs y
 | .b _ _ _,_=>False
 | c,y=>CR g hp w c y
def RowR (g : Gh) (hp : List Ob) (w : World) (id : Nat) (r : Row) : Prop :=
 (g.κ id = 0 /\ r.cells = []) \/ (g.κ id ≠ 0 /\ (r.sl = true -> r.cells ≠ []) /\ ∃ (arr : Array Value), w.heap[g.γ (.ob id)]? = some (.cells arr r.e (0, 0)) /\ r.cells.length <= arr.size /\ arr.size = g.κ id * r.k /\ g.κ id <= 9223372036854775807 /\
  ∀ (j : Nat) (c : C), r.cells[j]? = some c -> ∃ u, arr[j]? = some u /\ CellR g hp w id j c u)
def Bo (es:Array MapEntry) (clock:Nat):Prop:=clock=es.size/\∀ (i:Nat) (e:MapEntry),es[i]?=some e->e.born=i
theorem Bo.push {es:Array MapEntry} {clock:Nat} (h:Bo es clock) (k v:Value):Bo (es.push { key:=k,val:=v,born:=clock }) (clock+1):=by
 refine ⟨by rw [Array.size_push,h.1],fun i e he=>?_⟩
 rw [Array.getElem?_push] at he
 split at he
 rotate_left
 ·exact h.2 i e he
 rename_i hi
 cases he
 rw [h.1,hi]
def U8 (g:Gh) (hp:List Ob) (w:World) (id:Nat) (kv:List (Value × C)):Prop:=
 ∃ (es:Array MapEntry) (clock:Nat),w.heap[g.γ (.ob id)]?=some (.map es clock)/\es.size=kv.length/\
  (∀ (i:Nat) (p:Value × C),kv[i]?=some p->(∃ e:MapEntry,es[i]?=some e/\e.key=p.1/\CellR g hp w id 0 p.2 e.val)/\(∀ k cs,p.2 ≠ .o k cs))/\
  Bo es clock
def V3 (g:Gh) (hp:List Ob) (w:World) (id:Nat) (mid:Option Nat) (since:Nat) (seen:List Nat) (last:Nat):Prop:=
 ∃ m0,w.heap[g.γ (.ob id)]?=some (.mapIter (some m0) since seen.toArray last)/\∀ m,mid=some m->Bn hp m/\m0=g.γ (.ob m)
def U9 (mid:Option Nat) (since:Nat) (seen:List Nat) (last:Nat):List (Value × C):=[(.bool true,.it mid since seen last)]
def MpR (g:Gh) (hp:List Ob) (w:World) (id:Nat) (kv:List (Value × C)):Prop:=
 (∃ mid since seen last,kv=U9 mid since seen last/\V3 g hp w id mid since seen last)\/U8 g hp w id kv
def GlR (M:Nat->Prop) (w:World):Prop:=∀ n vs,SZ.lookup n=some vs->¬ M n/\n<w.heap.size/\∀ (j:Nat) (v:Value),vs[j]?=some v->v.oneCell'=true/\w.cell? ⟨n,j,none⟩=some v
theorem GlR.keep {M M':Nat->Prop} {w w':World} (h:GlR M w) (hz:w.heap.size<=w'.heap.size) (hb:∀ k,k<w.heap.size->¬ M k->w'.heap[k]?=w.heap[k]?) (hm:∀ k,k<w.heap.size->M' k->M k):GlR M' w':=fun n vs hn=>by
 obtain ⟨h1,h2,h3⟩:=h n vs hn
 exact ⟨fun hk=>h1 (hm n h2 hk),gBw h2 hz,fun j v hj=>⟨(h3 j v hj).1,(World.cell?_of_block (hb n h2 h1)).trans (h3 j v hj).2⟩⟩
structure HR (g:Gh) (hp:List Ob) (w:World):Prop where
 ml:∀ b,g.M b->b<w.heap.size
 md:∀ ℓ,Lv hp g ℓ->¬ g.M (g.γ ℓ)
 inj:∀ ℓ ℓ',Lv hp g ℓ->Lv hp g ℓ'->g.γ ℓ=g.γ ℓ'->ℓ=ℓ'
 row:∀ id r,hp[id]?=some (.r r)->RowR g hp w id r
 mp:∀ id kv,hp[id]?=some (.m kv)->MpR g hp w id kv
 gl:GlR (Ow hp g) w
def LR (R:C->Value->Prop) (xs:List C) (us:List Value):Prop:=us.length=xs.length/\∀ (i:Nat) (x:C),xs[i]?=some x->∃ u,us[i]?=some u/\R x u
def A0R (R:C->Value->Prop):A0->Value->Prop
 | .c x,y=>R x y
 | .g xs,y=>∃ us:List Value,y=.agg us.toArray/\LR R xs us
def AVR (R:C->Value->Prop):AV->Value->Prop
 | .a x,y=>A0R R x y
 | .tup xs,y=>∃ us:List Value,y=.tuple us.toArray/\us.length=xs.length/\∀ (i:Nat) (x:A0),xs[i]?=some x->∃ u,us[i]?=some u/\A0R R x u

structure RelG (g:Gh) (M0:Nat->Prop) (w0:World) (st:ST) (a:Act) (w:World):Prop where
 hr:HR g st.hp w
 new:∀ ℓ,Lv st.hp g ℓ->M0 (g.γ ℓ)\/w0.heap.size<=g.γ ℓ
 tm:∀ d,AVR (CR g st.hp w) (st.get d) (a.tmps.getD d undef)
 n:a.tmps.size=st.n
 df:a.defers=[]
 fp:Fp M0 w0 w
def Ext (n:Nat) (g g':Gh):Prop:=g'.M=g.M/\∀ i,i<n->g'.γ (.ob i)=g.γ (.ob i)/\g'.κ i=g.κ i
theorem Ext.refl (n:Nat) (g:Gh):Ext n g g:=⟨rfl,fun _ _=>⟨rfl,rfl⟩⟩
theorem Ext.trans {n:Nat} {a b c:Gh} (h:Ext n a b) (k:Ext n b c):Ext n a c:=⟨k.1.trans h.1,fun i hi=>⟨(k.2 i hi).1.trans (h.2 i hi).1,(k.2 i hi).2.trans (h.2 i hi).2⟩⟩
theorem Ext.le {n m:Nat} {a b:Gh} (h:Ext n a b) (hm:m<=n):Ext m a b:=⟨h.1,fun i hi=>h.2 i (gBw hi hm)⟩
structure Fm where
 P:Nat->Prop
 g:Gh
def Rel (M0:Fm) (w0:World) (st:ST) (a:Act) (w:World):Prop:=∃ g,(st.pin<=st.hp.length/\Ext st.pin M0.g g)/\RelG g M0.P w0 st a w

/-! what a change of the world and of the objects must keep -/
structure Mo (g:Gh) (hp:List Ob) (w:World) (g':Gh) (hp':List Ob) (w':World) (S:Nat->Prop):Prop where
 bn:∀ id,Bn hp id->Bn hp' id/\g'.γ (.ob id)=g.γ (.ob id)/\g'.κ id=g.κ id
 ow:∀ b,b<w.heap.size->Ow hp' g' b->Ow hp g b
 sz:w.heap.size<=w'.heap.size
 fx:∀ b,b<w.heap.size->¬ Ow hp g b->w'.heap[b]?=w.heap[b]?
 bo:∀ id,S id->Bn hp id->∀ (r':Row) (j:Nat) (k:Nat × Nat) (cs:List Tr),hp'[id]?=some (.r r')->r'.cells[j]?=some (.o k cs)->∃ r,hp[id]?=some (.r r)/\r.cells[j]?=some (.o k cs)/\
  (g.γ (.ob id)<w.heap.size->w'.cell? ⟨g.γ (.ob id),j,none⟩=w.cell? ⟨g.γ (.ob id),j,none⟩)
def C.bok (S:Nat->Prop):C->Prop
 | .b id _ _=>S id
 | _=>True
section
variable {g g' : Gh} {hp hp' : List Ob} {w w' : World} {S : Nat -> Prop}
theorem Mo.rd (h:Mo g hp w g' hp' w' S) {t:Tr} {y:Value} (hr:Rd (Ow hp g) w t y):Rd (Ow hp' g') w' t y:=hr.keep h.sz h.fx h.ow
theorem Mo.gl (h:Mo g hp w g' hp' w' S) (hr:GlR (Ow hp g) w):GlR (Ow hp' g') w':=hr.keep h.sz h.fx h.ow
theorem T1 {fn:FuncId} {ids:List Nat} (h:∀ id∈ids,g'.γ (.ob id)=g.γ (.ob id)):V2 g' fn ids=V2 g fn ids:=by
 unfold V2
 rw [gAU (fun id hid=>by rw [h id hid])]
theorem CR.mo (h:Mo g hp w g' hp' w' S) {c:C} {y:Value} (hS:c.bok S) (hr:CR g hp w c y):CR g' hp' w' c y:=by
 cases c with
 | u=>trivial
 | v x=>exact hr
 | t k cs=>exact h.rd hr
 | s id n=>obtain ⟨h1,h0,A,h2,h3,h4⟩:=hr;obtain ⟨b1,b2,b3⟩:=h.bn id h1;exact ⟨b1,by rw [b3];exact h0,A,by rw [b3];exact h2,by rw [b2,b3];exact h3,fun a ha=>gBw (h4 a ha) h.sz⟩
 | p id off=>obtain ⟨h1,h2⟩:=hr;obtain ⟨b1,b2,b3⟩:=h.bn id h1;exact ⟨b1,by rw [b2];exact h2⟩
 | q cs off=>
  obtain ⟨b,o,us,h1,h2,h3,h4,h5⟩:=hr
  exact ⟨b,o,us,h1,fun hin=>h2 (h.ow b h3 hin),gBw h3 h.sz,fun j t hj=>(World.cell?_of_block (h.fx b h3 h2)).trans (h4 j t hj),fun j t hj=>h.rd (h5 j t hj)⟩
 | o k cs=>exact hr
 | b id j n=>
  obtain ⟨h1,h2⟩:=hr
  obtain ⟨b1,b2,b3⟩:=h.bn id h1
  refine ⟨b1,fun r' k cs hr' hc'=>?_⟩
  obtain ⟨r,e1,e2,e3⟩:=h.bo id hS h1 r' j k cs hr' hc'
  obtain ⟨f1,f2,f3⟩:=h2 r k cs e1 e2
  rw [b2]
  exact ⟨gBw f1 h.sz,(e3 f1).trans f2,f3⟩
 | m id=>obtain ⟨h1,h2⟩:=hr;obtain ⟨b1,b2,b3⟩:=h.bn id h1;exact ⟨b1,by rw [b2];exact h2⟩
 | w id off n k=>obtain ⟨h1,h2,h3,h4⟩:=hr;obtain ⟨b1,b2,b3⟩:=h.bn id h1;exact ⟨b1,by rw [b3];exact h2,by rw [b3];exact h3,by rw [b2,b3];exact h4⟩
 | f fn ids=>
  obtain ⟨h1,h2⟩:=hr
  exact ⟨fun id hid=>(h.bn id (h1 id hid)).1,by rw [T1 (fun id hid=>(h.bn id (h1 id hid)).2.1)];exact h2⟩
 | it _ _ _ _=>exact hr.elim
theorem LR.imp {R R':C->Value->Prop} {xs:List C} {us:List Value} (h:LR R xs us) (hi:∀ x∈xs,∀ u,R x u->R' x u):LR R' xs us:=
 ⟨h.1,fun i x hx=>by obtain ⟨u,h1,h2⟩:=h.2 i x hx;exact ⟨u,h1,hi x (gE9 hx) u h2⟩⟩
def A0.all (p:C->Prop):A0->Prop
 | .c x=>p x
 | .g xs=>∀ x∈xs,p x
def AV.all (p:C->Prop):AV->Prop
 | .a x=>x.all p
 | .tup xs=>∀ x∈xs,x.all p
theorem A0R.imp {R R':C->Value->Prop} {p:C->Prop} {x:A0} {y:Value} (hp:x.all p) (h:A0R R x y) (hi:∀ x,p x->∀ u,R x u->R' x u):A0R R' x y:=by
 cases x with
 | c x=>exact hi x hp y h
 | g xs=>obtain ⟨us,h1,h2⟩:=h;exact ⟨us,h1,h2.imp fun x hx u hu=>hi x (hp x hx) u hu⟩
theorem AVR.imp {R R':C->Value->Prop} {p:C->Prop} {x:AV} {y:Value} (hp:x.all p) (h:AVR R x y) (hi:∀ x,p x->∀ u,R x u->R' x u):AVR R' x y:=by
 cases x with
 | a x=>exact A0R.imp hp h hi
 | tup xs=>
  obtain ⟨us,h1,h2,h3⟩:=h
  exact ⟨us,h1,h2,fun i x hx=>by obtain ⟨u,e1,e2⟩:=h3 i x hx;exact ⟨u,e1,A0R.imp (hp x (gE9 hx)) e2 hi⟩⟩
theorem A0.all_true (x:A0):x.all (C.bok fun _=>True):=by
 have h:∀ c:C,c.bok fun _=>True:=fun c=>by cases c <;> trivial
 cases x with
 | c x=>exact h x
 | g xs=>exact fun x _=>h x
theorem AV.all_true (x:AV):x.all (C.bok fun _=>True):=by
 cases x with
 | a x=>exact x.all_true
 | tup xs=>exact fun x _=>x.all_true
theorem A0R.mo (h:Mo g hp w g' hp' w' (fun _=>True)) {x:A0} {y:Value} (hr:A0R (CR g hp w) x y):A0R (CR g' hp' w') x y:=A0R.imp x.all_true hr fun _ hb _ hu=>CR.mo h hb hu
theorem AVR.mo (h:Mo g hp w g' hp' w' (fun _=>True)) {x:AV} {y:Value} (hr:AVR (CR g hp w) x y):AVR (CR g' hp' w') x y:=AVR.imp x.all_true hr fun _ hb _ hu=>CR.mo h hb hu
theorem CellR.mo (h:Mo g hp w g' hp' w' S) {id j:Nat} {c:C} {y:Value} (hr:CellR g hp w id j c y)
  (ho:∀ k cs,c=.o k cs->cs ≠ []->g'.γ (.cl id j)=g.γ (.cl id j)/\w'.heap[g.γ (.cl id j)]?=w.heap[g.γ (.cl id j)]?):CellR g' hp' w' id j c y:=by
 cases c with
 | o k cs=>
  rcases hr with ⟨h1,A,h2,h3⟩ | ⟨h1,n,c,arr,h2,h3,h4,h5,h6,h7,h8⟩
  ·exact .inl ⟨h1,A,h2,fun a ha=>gBw (h3 a ha) h.sz⟩
  obtain ⟨e1,e2⟩:=ho k cs rfl h1
  exact .inr ⟨h1,n,c,arr,by rw [e1];exact h2,h3,h4,h5,by rw [e1,e2];exact h6,h7,fun i t hi=>by obtain ⟨u,f1,f2⟩:=h8 i t hi;exact ⟨u,f1,h.rd f2⟩⟩
 | b _ _ _=>exact hr
 | u=>trivial
 | v x=>exact CR.mo h (c:=.v x) trivial hr
 | t k cs=>exact CR.mo h (c:=.t k cs) trivial hr
 | s id n=>exact CR.mo h (c:=.s id n) trivial hr
 | p id off=>exact CR.mo h (c:=.p id off) trivial hr
 | q cs off=>exact CR.mo h (c:=.q cs off) trivial hr
 | m id=>exact CR.mo h (c:=.m id) trivial hr
 | w id off n k=>exact CR.mo h (c:=.w id off n k) trivial hr
 | f fn ids=>exact CR.mo h (c:=.f fn ids) trivial hr
 | it _ _ _ _=>exact hr.elim
theorem RowR.mo (h:Mo g hp w g' hp' w' S) {id:Nat} {r:Row} (hb:hp[id]?=some (.r r)) (hr:RowR g hp w id r) (hk:g.κ id ≠ 0->w'.heap[g.γ (.ob id)]?=w.heap[g.γ (.ob id)]?)
  (ho:∀ j k cs,r.cells[j]?=some (.o k cs)->cs ≠ []->g'.γ (.cl id j)=g.γ (.cl id j)/\w'.heap[g.γ (.cl id j)]?=w.heap[g.γ (.cl id j)]?):RowR g' hp' w' id r:=by
 obtain ⟨b1,b2,b3⟩:=h.bn id ⟨_,hb,rfl⟩
 rcases hr with ⟨h1,h2⟩ | ⟨h0,ht,arr,h1,h2,h3,h4,h5⟩
 ·exact .inl ⟨by rw [b3];exact h1,h2⟩
 refine .inr ⟨by rw [b3];exact h0,ht,arr,by rw [b2,hk h0];exact h1,h2,by rw [b3];exact h3,by rw [b3];exact h4,fun j c hj=>?_⟩
 obtain ⟨u,f1,f2⟩:=h5 j c hj
 exact ⟨u,f1,CellR.mo h f2 fun k cs hc hne=>ho j k cs (by rw [hj,hc]) hne⟩
theorem MpR.mo (h:Mo g hp w g' hp' w' S) {id:Nat} {kv:List (Value × C)} (hb:hp[id]?=some (.m kv)) (hr:MpR g hp w id kv) (hk:w'.heap[g.γ (.ob id)]?=w.heap[g.γ (.ob id)]?):MpR g' hp' w' id kv:=by
 obtain ⟨b1,b2,b3⟩:=h.bn id ⟨_,hb,rfl⟩
 rcases hr with ⟨mid,since,seen,last,rfl,m0,h1,h2⟩ | ⟨es,clock,h1,h2,h3,h4⟩
 ·exact .inl ⟨mid,since,seen,last,rfl,m0,by rw [b2,hk];exact h1,fun m hm=>by obtain ⟨q1,q2⟩:=h2 m hm;obtain ⟨p1,p2,_⟩:=h.bn m q1;exact ⟨p1,by rw [p2];exact q2⟩⟩
 refine .inr ⟨es,clock,by rw [b2,hk];exact h1,h2,fun i p hp=>?_,h4⟩
 obtain ⟨⟨e,f1,f2,f3⟩,f4⟩:=h3 i p hp
 exact ⟨⟨e,f1,f2,CellR.mo h f3 fun k cs hc=>absurd hc (f4 k cs)⟩,f4⟩
theorem HR.lt (h:HR g hp w) {ℓ:Loc} (hl:Lv hp g ℓ):g.γ ℓ<w.heap.size:=by
 cases ℓ with
 | ob id=>
  rcases hl with ⟨r,hr,hk⟩ | ⟨kv,hr⟩
  rotate_left
  ·rcases h.mp id kv hr with ⟨_,_,_,_,_,m0,h1,_⟩ | ⟨es,c,h1,_⟩ <;> exact (Array.getElem?_eq_some_iff.1 h1).1
  rcases h.row id r hr with ⟨h1,_⟩ | ⟨_,_,arr,h1,_⟩
  ·exact absurd h1 hk
  exact (Array.getElem?_eq_some_iff.1 h1).1
 | cl id j=>
  obtain ⟨r,k,cs,hr,hc,hne⟩:=hl
  rcases h.row id r hr with ⟨_,h2⟩ | ⟨_,_,arr,_,_,_,_,h5⟩
  ·rw [h2] at hc;simp at hc
  obtain ⟨u,_,f2⟩:=h5 j _ hc
  rcases f2 with ⟨h1,_⟩ | ⟨_,n,c,arr,_,_,_,_,h6,_⟩
  ·exact absurd h1 hne
  exact (Array.getElem?_eq_some_iff.1 h6).1
end

theorem On {a:Act} {d e:Nat} {v:Value} (hd:d<a.tmps.size):(a.put (some d) v).tmps.getD e undef=if e=d then v else a.tmps.getD e undef:=by
 unfold Act.put
 by_cases h:e=d
 rotate_left
 ·simp [h,Array.getElem?_setIfInBounds,Ne.symm h]
 subst h
 simp [hd]
theorem Oo (st:ST) (d e:Nat) (x:AV):(st.put (some d) x).get e=if e=d then x else st.get e:=rfl
theorem RelG.put {g:Gh} {M0:Nat->Prop} {w0 w:World} {st:ST} {a:Act} (h:RelG g M0 w0 st a w) {d:Option Nat} {x:AV} {v:Value} (hd:∀ e,d=some e->e<st.n) (hx:AVR (CR g st.hp w) x v):
  RelG g M0 w0 (st.put d x) (a.put d v) w:=by
 cases d with
 | none=>exact h
 | some d=>
  refine ⟨h.hr,h.new,fun e=>?_,by simp [Act.put,ST.put,h.n],h.df,h.fp⟩
  rw [Oo,On (by rw [h.n];exact hd d rfl)]
  split
  ·exact hx
  exact h.tm e
theorem RelG.mo {g g':Gh} {M0:Nat->Prop} {w0 w w':World} {st:ST} {a:Act} {hp':List Ob} (h:RelG g M0 w0 st a w) (hm:Mo g st.hp w g' hp' w' (fun _=>True))
  (hr:HR g' hp' w') (hn:∀ ℓ,Lv hp' g' ℓ->M0 (g'.γ ℓ)\/w0.heap.size<=g'.γ ℓ) (hf:Fp M0 w0 w'):RelG g' M0 w0 { st with hp:=hp' } a w':=
 ⟨hr,hn,fun d=>AVR.mo hm (h.tm d),h.n,h.df,hf⟩
theorem RelG.ev {g:Gh} {M0:Nat->Prop} {w0 w:World} {st:ST} {a:Act} (h:RelG g M0 w0 st a w) (x:Operand):AVR (CR g st.hp w) (st.ev x) (a.eval x):=by
 cases x with
 | tmp t=>exact h.tm t
 | const v=>exact rfl
 | global n=>
  show AVR _ (Om n) _
  unfold Om
  split
  rotate_left
  ·trivial
  rename_i vs hv
  obtain ⟨h1,h2,h3⟩:=h.hr.gl n vs hv
  refine ⟨n,0,fun j=>(vs[j]?).getD undef,rfl,h1,h2,fun j t hj=>?_,fun j t hj=>?_⟩
  ·rw [gAC,gBG] at hj
   obtain ⟨v,hv,rfl⟩:=hj
   rw [gBD,(h3 j v hv).2];simp [hv]
  rw [gAC,gBG] at hj
  obtain ⟨v,hv,rfl⟩:=hj
  simp only [hv,gBF]
  exact .v v (h3 j v hv).1
 | func f=>exact ⟨by simp,by simp [Act.eval,V2]⟩
end Go.Proofs.YtbnabodoabimnaaGreat
namespace Go.Proofs.YtbnabodoabimnaaGreat
set_option linter.unusedVariables false
set_option linter.unusedSimpArgs false
open Go.RowKit
/-! what the machine must know of a type -/
structure Ty where
 size:Nat
 bytes:Nat
 agg:Bool
 zero:List Value
 kind:Nat
 elem:TypeId
 flds:List (Nat × Nat × Bool)
def T2:TypeDesc->Bool
 | .struct _ | .array _ _=>true
 | _=>false
def L4 (P:Program):TypeDesc->List (Nat × Nat × Bool)
 | .struct fs=>fs.toList.map fun f=>(f.offset,((P.info? f.type).map (·.size)).getD 0,((P.underlying f.type).map T2).getD false)
 | _=>[]
def HA:TypeDesc->Nat × TypeId
 | .slice e=>(1,e)
 | .struct _=>(2,0)
 | .map _ e=>(3,e)
 | .string=>(4,0)
 | .int _=>(5,0)
 | _=>(0,0)
def L5 (P:Program) (f:Field):Bool:=(P.info? f.type).isSome && (P.underlying f.type).isSome
def V4 (P:Program):TypeDesc->Bool
 | .struct fs=>fs.toList.all (L5 P)
 | _=>true
def tyOf (P:Program) (t:TypeId):Option Ty:=
 match P.info? t,P.underlying t with
 | some i,some u=>match i.zero with
  | some z=>if V4 P u then some ⟨i.size,i.bytes,T2 u,z.cells.toList,(HA u).1,(HA u).2,L4 P u⟩ else none
  | none=>none
 | _,_=>none
section
variable {P : Program} {t : TypeId} {y : Ty}
theorem Dh (h:tyOf P t=some y):∃ i u z,P.info? t=some i/\P.underlying t=some u/\i.zero=some z/\V4 P u=true/\y=⟨i.size,i.bytes,T2 u,z.cells.toList,(HA u).1,(HA u).2,L4 P u⟩:=by
 unfold tyOf at h
 split at h
 rotate_left
 ·cases h
 rename_i i u hi hu
 split at h
 rotate_left
 ·cases h
 rename_i z hz
 split at h
 rotate_left
 ·cases h
 rename_i hd
 exact ⟨i,u,z,hi,hu,hz,hd,(Option.some.inj h).symm⟩
theorem CT {i:TypeInfo} (h:P.info? t=some i) (w:World):(typeInfo t).run P w=.ok i w:=by simp [typeInfo,h]
theorem tyOf.size (h:tyOf P t=some y) (w:World):(sizeOf t).run P w=.ok y.size w:=by
 obtain ⟨i,u,z,hi,hu,hz,hd,rfl⟩:=Dh h
 simp [sizeOf,CT hi]
theorem tyOf.agg (h:tyOf P t=some y) (w:World):(isAgg t).run P w=.ok y.agg w:=by
 obtain ⟨i,u,z,hi,hu,hz,hd,rfl⟩:=Dh h
 simp only [isAgg,Sem.run_bind,run_underlying hu,Result.andThen_ok]
 cases u <;> simp [T2]
theorem tyOf.slice (h:tyOf P t=some y) (hk:y.kind=1):P.underlying t=some (.slice y.elem):=by
 obtain ⟨i,u,z,hi,hu,hz,hd,rfl⟩:=Dh h
 cases u <;> simp [HA] at hk ⊢
 exact hu
theorem tyOf.struct (h:tyOf P t=some y) (hk:y.kind=2):∃ fs,P.underlying t=some (.struct fs)/\fs.toList.all (L5 P)=true/\y.flds=L4 P (.struct fs):=by
 obtain ⟨i,u,z,hi,hu,hz,hd,rfl⟩:=Dh h
 cases u <;> simp [HA] at hk
 rename_i fs
 exact ⟨fs,hu,hd,rfl⟩
theorem tyOf.zero (h:tyOf P t=some y) (w:World):∃ z,(zeroValue t).run P w=.ok z w/\z.cells.toList=y.zero:=by
 obtain ⟨i,u,z,hi,hu,hz,hd,rfl⟩:=Dh h
 exact ⟨z,by simp [zeroValue,CT hi,hz],rfl⟩
theorem tyOf.info (h:tyOf P t=some y):∃ i z,P.info? t=some i/\i.zero=some z/\i.size=y.size/\i.bytes=y.bytes/\z.cells.toList=y.zero:=by
 obtain ⟨i,u,z,hi,hu,hz,hd,rfl⟩:=Dh h
 exact ⟨i,z,hi,hz,rfl,rfl,rfl⟩
theorem Q1 {fs:Array Field} (hf:fs.toList.all (L5 P)=true) {n off sz:Nat} {ag:Bool} (h:(L4 P (.struct fs))[n]?=some (off,sz,ag)):
  ∃ f,fs[n]?=some f/\f.offset=off/\(∀ w,(sizeOf f.type).run P w=.ok sz w)/\(∀ w,(isAgg f.type).run P w=.ok ag w):=by
 simp only [L4,gAC] at h
 cases hn:fs.toList[n]? with
 | none=>rw [hn] at h;cases h
 | some f=>
  rw [hn] at h
  simp only [gBH,gBI,gBJ] at h
  obtain ⟨h1,h2,h3⟩:=h
  have hok:=gAg.1 hf f (gE9 hn)
  simp only [L5,gA1,Option.isSome_iff_exists] at hok
  obtain ⟨⟨i,hi⟩,u,hu⟩:=hok
  refine ⟨f,by simpa using hn,h1,fun w=>?_,fun w=>?_⟩
  ·rw [hi] at h2;simp at h2;simp [sizeOf,CT hi,h2]
  rw [hu] at h3;simp at h3
  simp only [isAgg,Sem.run_bind,run_underlying hu,Result.andThen_ok]
  rw [<- h3]
  cases u <;> simp [T2]
end

/-! operations that only compute -/
def L6 (n:Int):Prop := -9223372036854775808<=n/\n<9223372036854775808
def AV.i (n:Int):AV:=.a (.c (.v (.int .i64 n)))
def AV.b (t:Bool):AV:=.a (.c (.v (.bool t)))
def C.one:C->Bool
 | .u=>false
 | .v (.agg _)=>false
 | .v (.tuple _)=>false
 | .o _ _=>false
 | .b _ _ _=>false
 | _=>true
def El:BinOp->Int->Int->Option (Prop × Int)
 | .add,a,b=>some (L6 (a+b),a+b)
 | .sub,a,b=>some (L6 (a - b),a - b)
 | .mul,a,b=>some (L6 (a*b),a*b)
 | .quo,a,b=>some (0<=a/\0<b/\a<9223372036854775808,a / b)
 | .rem,a,b=>some (0<b,a.tmod b)
 | _,_,_=>none
def Gm:BinOp->Int->Int->Option Bool
 | .eql,a,b=>some (a == b)
 | .neq,a,b=>some (a != b)
 | .lss,a,b=>some (decide (a<b))
 | .leq,a,b=>some (decide (a<=b))
 | .gtr,a,b=>some (decide (a > b))
 | .geq,a,b=>some (decide (a>=b))
 | _,_,_=>none
def Ff (op:BinOp):Value->Value->Option (Prop × Value)
 | .int .i64 a,.int .i64 b=>match El op a b with
  | some (c,n)=>some (c,.int .i64 n)
  | none=>match Gm op a b with
   | some t=>some (True,.bool t)
   | none=>match op with
    | .shr=>some (0<=b/\b<=64,.int .i64 (a.fdiv (2 ^ b.toNat)))
    | .shl=>some (0<=b/\b<=64/\L6 (a*2 ^ b.toNat),.int .i64 (a*2 ^ b.toNat))
    | _=>none
 | .int .i64 a,.int .u64 b=>match op with
  | .shr=>some (0<=b/\b<=64,.int .i64 (a.fdiv (2 ^ b.toNat)))
  | .shl=>some (0<=b/\b<=64/\L6 (a*2 ^ b.toNat),.int .i64 (a*2 ^ b.toNat))
  | _=>none
 | .int .u64 a,.int .u64 b=>match op with
  | .shr=>some (0<=b/\b<=64/\0<=a,.int .u64 (a / 2 ^ b.toNat))
  | .or=>some ((0<=a/\a<18446744073709551616)/\0<=b/\b<18446744073709551616,.int .u64 ((a.toNat ||| b.toNat:Nat):Int))
  | .and=>some ((0<=a/\a<18446744073709551616)/\0<=b/\b<18446744073709551616,.int .u64 ((a.toNat &&& b.toNat:Nat):Int))
  | .sub=>some (b<=a/\0<=b/\a<18446744073709551616,.int .u64 (a - b))
  | op=>match Gm op a b with
   | some t=>some (True,.bool t)
   | none=>none
 | .int k a,.int k' b=>match Gm op a b with
  | some t=>some (k=k',.bool t)
  | none=>match op with
   | .shl=>some (k=.u64/\0<=b/\b<=64/\0<=a/\a*2 ^ b.toNat<18446744073709551616,.int .u64 (a*2 ^ b.toNat))
   | _=>none
 | _,_=>none
def V5:UnOp->Value->Option (Prop × Value)
 | .not,.bool b=>some (True,.bool (!b))
 | .neg,.int .i64 n=>some (L6 (-n),.int .i64 (-n))
 | _,_=>none
def FB:List C->Option (List Value)
 | []=>some []
 | .v (.int .i64 n) :: r=>(FB r).map (Value.int .i64 n :: ·)
 | _=>none
def V6:List C->List C->Bool
 | .v (.int _ a) :: r,.v (.int _ b) :: s=>a == b && V6 r s
 | _,_=>true
def M3 (xs:List C) (off sz:Nat) (ag:Bool):A0:=if ag then .g ((xs.drop off).take sz) else .c (xs.getD off .u)
def A0.cells:A0->List C
 | .c x=>[x]
 | .g xs=>xs
def A0.ones:A0->Bool
 | .c x=>x.one
 | .g _=>true
def AV.zeroOf (y:Ty):List C:=y.zero.map .v
def De (cs:List C) (off:Nat):List C->List C
 | []=>cs
 | x :: r=>De (cs.set off x) (off+1) r
def Fa (place:Nat->Option (Nat × Nat)) (cells:List C):List (Nat × AV)->Option (List C)
 | []=>some cells
 | (i,.a x) :: rest=>match place i with
  | some (off,size)=>if x.ones && x.cells.length == size && decide (off+size<=cells.length) then Fa place (De cells off x.cells) rest else none
  | none=>none
 | _ :: _=>none
def LS:List AV->Option (List Nat)
 | []=>some []
 | .a (.c (.p id 0)) :: r=>(LS r).map (id :: ·)
 | _=>none
def M4 (ev:Operand->AV) (c a b:Operand):Option (Prop × AV):=
 match ev c with
 | .a (.c (.v (.bool t)))=>some (True,if t then ev a else ev b)
 | _=>none
def T3 (ev:Operand->AV) (x:Operand):Option (Prop × AV):=
 match ev x with
 | .a (.c (.p id off))=>some (True,.a (.c (.p id off)))
 | .a (.c (.q cs off))=>some (True,.a (.c (.q cs off)))
 | .a (.c (.f fn ids))=>some (True,.a (.c (.f fn ids)))
 | _=>none
def Gf (P:Program) (op:BinOp) (t:TypeId) (x y:Operand) (us vs:List Value) (r:Bool):Prop:=
 ∀ w,(do eqGuard op t x y (.agg us.toArray) (.agg vs.toArray);binOp op t (.agg us.toArray) (.agg vs.toArray):Sem Value).run P w=.ok (.bool r) w
def T4 (P:Program) (ev:Operand->AV) (op:BinOp) (t:TypeId) (x y:Operand):Option (Prop × AV):=
 match ev x,ev y with
 | .a (.c (.v a)),.a (.c (.v b))=>match Ff op a b with
  | some (c,v)=>some (c,.a (.c (.v v)))
  | none=>none
 | .a (.g xs),.a (.g ys)=>match FB xs,FB ys with
  | some us,some vs=>match op with
   | .eql=>some (Gf P .eql t x y us vs (V6 xs ys),.b (V6 xs ys))
   | .neq=>some (Gf P .neq t x y us vs (!V6 xs ys),.b (!V6 xs ys))
   | _=>none
  | _,_=>none
 | _,_=>none
def V7 (ev:Operand->AV) (op:UnOp) (x:Operand):Option (Prop × AV):=
 match ev x with
 | .a (.c (.v a))=>match V5 op a with
  | some (c,v)=>some (c,.a (.c (.v v)))
  | none=>none
 | _=>none
def M5 (P:Program) (ev:Operand->AV) (s d:TypeId) (x:Operand):Option (Prop × AV):=
 match ev x,P.underlying s,P.underlying d with
 | .a (.c (.v (.int _ n))),some _,some (.int k)=>some (True,.a (.c (.v (.int k (k.wrap n)))))
 | _,_,_=>none
def HB (P:Program) (ev:Operand->AV) (t:TypeId) (x:Operand) (f:Nat):Option (Prop × AV):=
 match ev x,tyOf P t with
 | .a (.g xs),some y=>match y.kind,y.flds[f]? with
  | 2,some (off,sz,ag)=>some (off+sz<=xs.length/\0<sz,.a (M3 xs off sz ag))
  | _,_=>none
 | _,_=>none
def D4 (P:Program) (ev:Operand->AV) (t:TypeId) (x:Operand) (f:Nat):Option (Prop × AV):=
 match ev x,tyOf P t with
 | .a (.c (.p id off)),some y=>match y.kind,y.flds[f]? with
  | 2,some (o,sz,_)=>some (0<sz,.a (.c (.p id (off+o))))
  | _,_=>none
 | .a (.c (.q cs off)),some y=>match y.kind,y.flds[f]? with
  | 2,some (o,sz,_)=>some (0<sz,.a (.c (.q cs (off+o))))
  | _,_=>none
 | _,_=>none
def F6 (P:Program) (t:TypeId):Option Nat:=
 match tyOf P t with
 | some y=>match y.kind,tyOf P y.elem with
  | 1,some z=>some z.size
  | _,_=>none
 | none=>none
def HD (P:Program) (ev:Operand->AV) (t:TypeId) (x ix:Operand):Option (Prop × AV):=
 match F6 P t,ev x,ev ix with
 | some z,.a (.c (.s id n)),.a (.c (.v (.int _ i)))=>some (0<=i/\i<n,.a (.c (.p id (i.toNat*z))))
 | some z,.a (.c (.w id off n k)),.a (.c (.v (.int _ i)))=>some (0<=i/\i<n/\z=k,.a (.c (.p id ((off+i.toNat)*z))))
 | some z,.a (.c (.t k cs)),.a (.c (.v (.int _ i)))=>some (0<=i/\i.toNat*k<cs.length/\z=k,.a (.c (.q cs (i.toNat*k))))
 | _,_,_=>none
def T5 (ev:Operand->AV) (x:Operand) (i:Nat):Option (Prop × AV):=
 match ev x with
 | .tup xs=>match xs[i]? with
  | some x=>some (True,.a x)
  | none=>none
 | _=>none
def Oq (ev:Operand->AV) (fn:Fn) (first captured:Array Operand):Option (Prop × AV):=
 match fn,first.toList,LS (captured.toList.map ev) with
 | .func f,[],some ids=>some (True,.a (.c (.f f ids)))
 | _,_,_=>none
def HE (P:Program) (ev:Operand->AV) (t:TypeId) (parts:Array (Nat × Operand)):Option (Prop × AV):=
 match tyOf P t with
 | some y=>match y.kind,Fa (fun i=>(y.flds[i]?).map fun f=>(f.1,f.2.1)) (AV.zeroOf y) (parts.toList.map fun p=>(p.1,ev p.2)) with
  | 2,some cs=>some (True,.a (.g cs))
  | _,_=>none
 | none=>none
def JF (P:Program) (ev:Operand->AV) (t:TypeId) (x:Operand) (lo hi mx:Option Operand):Option (Prop × AV):=
 match mx,F6 P t,ev x,lo.map ev,hi.map ev with
 | none,some _,.a (.c (.s id n)),none,some (.a (.c (.v (.int _ h))))=>some (0<=h/\h<=n,.a (.c (.s id h.toNat)))
 | none,some z,.a (.c (.s id n)),some (.a (.c (.v (.int _ l)))),none=>some (0<=l/\l.toNat<n,.a (.c (.w id l.toNat (n - l.toNat) z)))
 | none,some z,.a (.c (.t k cs)),none,some (.a (.c (.v (.int _ h))))=>some (0<=h/\h.toNat*k<=cs.length/\z=k/\0<k,.a (.c (.t k (cs.take (h.toNat*k)))))
 | none,some z,.a (.c (.t k cs)),some (.a (.c (.v (.int _ l)))),none=>some (0<=l/\l.toNat*k<=cs.length/\z=k/\0<k,.a (.c (.t k (cs.drop (l.toNat*k)))))
 | _,_,_,_,_=>none
def T6 (P:Program) (ev:Operand->AV) (t:TypeId) (x:Operand):Option (Prop × AV):=
 match tyOf P t with
 | some y=>match y.kind,ev x with
  | 1,.a (.c (.s _ n))=>some (True,.i n)
  | 1,.a (.c (.w _ _ n _))=>some (True,.i n)
  | 1,.a (.c (.t k cs))=>some (0<k,.i (cs.length / k:Nat))
  | 1,.a (.c (.v (.slice _ n _)))=>some (True,.i n)
  | 4,.a (.c (.v (.string s)))=>some (True,.i s.size)
  | _,_=>none
 | none=>none
def SR (ev:Operand->AV) (mx:Bool) (x y:Operand):Option (Prop × AV):=
 match ev x,ev y with
 | .a (.c (.v (.int .i64 a))),.a (.c (.v (.int .i64 b)))=>some (True,.i (if mx then (if b > a then b else a) else (if b<a then b else a)))
 | _,_=>none
def M6 (P:Program) (ev:Operand->AV) (c:Call):Option (Prop × AV):=
 match c.callee,c.args.toList,c.argTypes.toList with
 | .builtin .len,[x],[t]=>T6 P ev t x
 | .builtin .min,[x,y],_=>SR ev false x y
 | .builtin .max,[x,y],_=>SR ev true x y
 | _,_,_=>none
def V8 (P:Program) (op:Op) (ev:Operand->AV):Option (Prop × AV):=
 match op with
 | .move x=>some (True,ev x)
 | .assign x=>some (True,ev x)
 | .pick c a b=>M4 ev c a b
 | .nilCheck x=>T3 ev x
 | .binOp op t x y _=>T4 P ev op t x y
 | .unOp op _ x=>V7 ev op x
 | .convert s d x=>M5 P ev s d x
 | .field t x f=>HB P ev t x f
 | .fieldAddr t x f=>D4 P ev t x f
 | .indexAddr t x ix=>HD P ev t x ix
 | .extract x i=>T5 ev x i
 | .makeFunc fn first captured=>Oq ev fn first captured
 | .build t parts=>HE P ev t parts
 | .slice t x lo hi mx=>JF P ev t x lo hi mx
 | .call c=>M6 P ev c
 | _=>none
end Go.Proofs.YtbnabodoabimnaaGreat
namespace Go.Proofs.YtbnabodoabimnaaGreat
set_option linter.unusedVariables false
set_option linter.unusedSimpArgs false
open Go.RowKit
theorem Gn (b off n:Nat):(⟨b,off,none⟩:Addr).add n=⟨b,off+n,none⟩:=by
 unfold Addr.add
 split
 ·rename_i h;subst h;rfl
 rfl
theorem E8 {n:Int} (h:L6 n):IntKind.i64.wrap n=n:=by
 obtain ⟨h1,h2⟩:=h
 exact IntWalk.i64_in n (by omega)
theorem Fg {n:Int} (h0:0<=n) (h:n<18446744073709551616):IntKind.u64.wrap n=n:=by
 unfold IntKind.wrap
 simp only [IntKind.signed,Bool.false_and,IntKind.bits,gA5,if_false]
 omega
theorem JG {a:Int} (h0:0<=a) (h:a<18446744073709551616):(a % 2 ^ IntKind.u64.bits).toNat=a.toNat:=by
 show (a % 2 ^ 64).toNat=a.toNat
 omega
theorem L7 {P:Program} {op:BinOp} {t:TypeId} {x y:Operand} {a b v:Value} {c:Prop} (h:Ff op a b=some (c,v)) (hc:c) (w:World):
  (do eqGuard op t x y a b;binOp op t a b:Sem Value).run P w=.ok v w:=by
 have hg:∀ w:World,(eqGuard op t x y a b).run P w=.ok () w:=by
  intro w
  unfold eqGuard
  unfold Ff at h
  split at h <;> (cases op <;> simp at h ⊢)
 simp only [Sem.run_bind,hg,Result.andThen_ok]
 unfold Ff at h
 split at h
 rotate_left
 ·rename_i a b _
  cases op <;> simp at h <;> obtain ⟨h1,h2⟩:=h <;> subst h2 <;> (try replace hc:=h1.2 hc) <;> simp [binOp,Op.shift]
  ·exact E8 hc.2.2
  exact (Int.fdiv_eq_ediv_of_nonneg _ (by exact Int.le_of_lt (Int.pow_pos (by omega)))).symm
 ·rename_i a b
  cases op <;> simp [Gm] at h <;> obtain ⟨h1,h2⟩:=h <;> subst h2 <;> (try replace hc:=h1.2 hc) <;> simp [binOp,Op.intCmp,Op.shift,Op.intArith,Op.intBits]
  ·exact Fg (by omega) (by omega)
  ·rw [JG hc.1.1 hc.1.2,JG hc.2.1 hc.2.2]
   have:=Nat.and_le_left (n:=a.toNat) (m:=b.toNat)
   exact Fg (by omega) (by omega)
  rw [JG hc.1.1 hc.1.2,JG hc.2.1 hc.2.2]
  have:=Nat.or_lt_two_pow (n:=64) (x:=a.toNat) (y:=b.toNat) (by omega) (by omega)
  exact Fg (by omega) (by omega)
 ·rename_i k a k' b _ _ _
  cases op <;> simp [Gm] at h <;> obtain ⟨h1,h2⟩:=h <;> subst h2 <;> (try replace hc:=h1.2 hc) <;> simp [binOp,Op.intCmp,Op.shift,hc]
  rw [if_neg (by omega),gBy (show b.toNat<=IntKind.u64.bits by show b.toNat<=64;omega),Fg (Int.mul_nonneg hc.2.2.2.1 (Int.le_of_lt (Int.pow_pos (by omega)))) hc.2.2.2.2]
 ·cases h
 rename_i a b
 cases op <;> simp [El,Gm] at h <;> obtain ⟨h1,h2⟩:=h <;> subst h2 <;> (try replace hc:=h1.2 hc) <;> simp [binOp,Op.intArith,Op.intDiv,Op.intCmp,Op.shift]
 rotate_left 4
 ·intro h0;omega
 ·exact E8 hc.2.2
 ·exact (Int.fdiv_eq_ediv_of_nonneg _ (by exact Int.le_of_lt (Int.pow_pos (by omega)))).symm
 ·exact E8 hc
 ·exact E8 hc
 ·exact E8 hc
 rw [if_neg (by omega)]
 simp
 rw [Int.tdiv_eq_ediv_of_nonneg hc.1]
 refine E8 ⟨?_,?_⟩
 ·have:=Int.ediv_nonneg hc.1 (Int.le_of_lt hc.2.1);omega
 have:=Int.ediv_le_self b hc.1;omega
theorem M7 {P:Program} {op:UnOp} {a v:Value} {c:Prop} (h:V5 op a=some (c,v)) (hc:c) (w:World):(Op.unary op a).run P w=.ok v w:=by
 unfold V5 at h
 split at h
 rotate_left 2
 ·cases h
 ·simp at h;obtain ⟨_,h2⟩:=h;subst h2;simp [Op.unary]
 simp at h;obtain ⟨h1,h2⟩:=h;subst h2
 simp [Op.unary,Op.intArith]
 exact E8 (h1.2 hc)
theorem IC:∀ {xs:List C} {us:List Value},FB xs=some us->∀ {R:C->Value->Prop},(∀ v y,R (.v v) y->y=v)->∀ {ys:List Value},LR R xs ys->ys=us
 | [],us,h,R,hR,ys,hl=>by
  simp [FB] at h;subst h
  exact gAt hl.1
 | c :: r,us,h,R,hR,ys,hl=>by
  unfold FB at h
  split at h
  ·rename_i heq;exact absurd heq (by simp)
  ·rename_i n r' heq
   simp only [gAl] at heq
   obtain ⟨rfl,rfl⟩:=heq
   cases hr:FB r with
   | none=>rw [hr] at h;cases h
   | some us'=>
    rw [hr] at h
    simp at h;subst h
    obtain ⟨y,ys',rfl⟩:∃ y ys',ys=y :: ys':=by
     cases ys with
     | nil=>have:=hl.1;simp at this
     | cons y ys'=>exact ⟨y,ys',rfl⟩
    have h0:=hl.2 0 _ rfl
    simp at h0
    rw [hR _ _ h0]
    rw [IC hr hR (ys:=ys') ⟨by have:=hl.1;simpa using this,fun i x hx=>by simpa using hl.2 (i+1) x (by simpa using hx)⟩]
  ·cases h
theorem LR.part {R:C->Value->Prop} {xs:List C} {us:List Value} (h:LR R xs us) (off sz:Nat) (hle:off+sz<=xs.length):LR R ((xs.drop off).take sz) ((us.drop off).take sz):=by
 refine ⟨by simp [h.1],fun i x hx=>?_⟩
 rw [gAF] at hx ⊢
 split at hx
 rotate_left
 ·cases hx
 rw [gAA] at hx ⊢
 rename_i hi
 obtain ⟨u,h1,h2⟩:=h.2 _ x hx
 exact ⟨u,by simpa [hi] using h1,h2⟩
theorem Ot {g:Gh} {hp:List Ob} {w:World} {c:C} {y:Value} (h1:c.one=true) (h:CR g hp w c y):y.cells=#[y]:=by
 cases c with
 | u=>cases h1
 | v x=>cases (show y=x from h);cases y <;> simp [C.one] at h1 <;> rfl
 | t k cs=>cases (show Rd _ _ _ _ from h) <;> rfl
 | s id n=>obtain ⟨_,_,_,rfl,_⟩:=h;rfl
 | p id off=>obtain ⟨_,rfl⟩:=h;rfl
 | q cs off=>obtain ⟨b,o,us,rfl,_⟩:=h;rfl
 | o k cs=>cases h1
 | b id j n=>cases h1
 | m id=>obtain ⟨_,rfl⟩:=h;rfl
 | w id off n k=>obtain ⟨_,_,_,rfl⟩:=h;rfl
 | f fn ids=>obtain ⟨_,rfl⟩:=h;rfl
 | it _ _ _ _=>exact h.elim
theorem A0R.cells {g:Gh} {hp:List Ob} {w:World} {x:A0} {y:Value} (h1:x.ones=true) (h:A0R (CR g hp w) x y):LR (CR g hp w) x.cells y.cells.toList:=by
 cases x with
 | c c=>
  rw [Ot h1 h]
  exact ⟨by simp [A0.cells],fun i x hx=>by
   cases i with
   | zero=>simp [A0.cells] at hx;subst hx;exact ⟨y,by simp,h⟩
   | succ i=>simp [A0.cells] at hx⟩
 | g xs=>obtain ⟨us,rfl,hl⟩:=h;exact hl
theorem LR.set {R:C->Value->Prop} {xs:List C} {us:List Value} (h:LR R xs us) (i:Nat) {x:C} {u:Value} (hx:R x u):LR R (xs.set i x) (us.set i u):=by
 refine ⟨by simp [h.1],fun j y hy=>?_⟩
 rw [gAE] at hy ⊢
 split at hy
 rotate_left
 ·rename_i h1
  rw [if_neg h1]
  exact h.2 j y hy
 split at hy
 rotate_left
 ·cases hy
 cases hy
 rename_i h1 h2
 subst h1
 exact ⟨u,by rw [if_pos rfl,if_pos (by rw [h.1];exact h2)],hx⟩
theorem LR.append {R:C->Value->Prop} {xs ys:List C} {us vs:List Value} (h:LR R xs us) (k:LR R ys vs):LR R (xs++ys) (us++vs):=by
 refine ⟨by simp [h.1,k.1],fun i x hx=>?_⟩
 by_cases hi:i<xs.length
 ·rw [gEa hi] at hx
  rw [gEa (by rw [h.1];exact hi)]
  exact h.2 i x hx
 rw [gEb (by omega)] at hx
 rw [gEb (by rw [h.1];omega),h.1]
 exact k.2 _ x hx
theorem L8 {R:C->Value->Prop} {cs:List C} {us:List Value} {off:Nat} {xs:List C} {ys:List Value} (h:LR R cs us) (hx:LR R xs ys):
  ∃ vs:List Value,((ys.toArray.zipIdx.foldl (fun cs p=>cs.setIfInBounds (off+p.2) p.1) us.toArray)=vs.toArray)/\LR R (De cs off xs) vs:=by
 have key:∀ (xs:List C) (ys:List Value) (cs:List C) (us:List Value) (k:Nat),LR R cs us->LR R xs ys->
   ∃ vs:List Value,((ys.zipIdx k).foldl (fun cs p=>cs.setIfInBounds (off+p.2) p.1) us.toArray)=vs.toArray/\LR R (De cs (off+k) xs) vs:=by
  intro xs
  induction xs with
  | nil=>
   intro ys cs us k h hx
   have:ys=[]:=gAt hx.1
   subst this
   exact ⟨us,by simp,h⟩
  | cons x r ih=>
   intro ys cs us k h hx
   obtain ⟨y,ys',rfl⟩:∃ y ys',ys=y :: ys':=by
    cases ys with
    | nil=>have:=hx.1;simp at this
    | cons y ys'=>exact ⟨y,ys',rfl⟩
   have h0:=hx.2 0 x rfl
   simp at h0
   obtain ⟨vs,e1,e2⟩:=ih ys' (cs.set (off+k) x) (us.set (off+k) y) (k+1) (h.set _ h0) ⟨by have:=hx.1;simpa using this,fun i x hx'=>by simpa using hx.2 (i+1) x (by simpa using hx')⟩
   refine ⟨vs,?_,e2⟩
   rw [<- e1]
   simp [List.zipIdx_cons]
 obtain ⟨vs,e1,e2⟩:=key xs ys cs us 0 h hx
 exact ⟨vs,by rw [<- e1];simp,e2⟩
theorem E9 {g:Gh} {hp:List Ob} {w:World} {place:Nat->Option (Nat × Nat)}:∀ {parts:List (Nat × AV)} {vs:List (Nat × Value)} {cells cs:List C} {us:List Value},
  Fa place cells parts=some cs->LR (CR g hp w) cells us->vs.length=parts.length->(∀ (i:Nat) p q,parts[i]?=some p->vs[i]?=some q->q.1=p.1/\AVR (CR g hp w) p.2 q.2)->
  ∃ r:List Value,Instr.fill place us.toArray vs=some r.toArray/\LR (CR g hp w) cs r
 | [],vs,cells,cs,us,h,hl,hn,_=>by
  have:vs=[]:=gAt hn
  subst this
  simp [Fa] at h;subst h
  exact ⟨us,by simp [Instr.fill],hl⟩
 | (i,x) :: rest,vs,cells,cs,us,h,hl,hn,hp'=>by
  obtain ⟨⟨i',v⟩,vs',rfl⟩:∃ y ys',vs=y :: ys':=by
   cases vs with
   | nil=>simp at hn
   | cons y ys'=>exact ⟨y,ys',rfl⟩
  obtain ⟨e1,e2⟩:=hp' 0 _ _ rfl rfl
  simp only at e1 e2
  subst e1
  unfold Fa at h
  split at h
  ·rename_i heq;exact absurd heq (by simp)
  ·rename_i i2 x2 rest2 heq
   simp only [gAl,gBJ] at heq
   obtain ⟨⟨rfl,rfl⟩,rfl⟩:=heq
   split at h
   ·rename_i off size hpl
    split at h
    ·rename_i hcond
     simp only [gA1,beq_iff_eq,gBM] at hcond
     obtain ⟨⟨c1,c2⟩,c3⟩:=hcond
     have hlx:=A0R.cells c1 e2
     have hsz:v.cells.size=size:=by have:=hlx.1;rw [c2] at this;simpa using this
     obtain ⟨us',f1,f2⟩:=L8 (off:=off) hl hlx
     obtain ⟨r,g1,g2⟩:=E9 (vs:=vs') h f2 (by simpa using hn) (fun j p q hp1 hq1=>hp' (j+1) p q (by simpa using hp1) (by simpa using hq1))
     refine ⟨r,?_,g2⟩
     unfold Instr.fill
     rw [hpl]
     simp only
     rw [if_neg (by
      simp only [Bool.or_eq_true,gBM,not_or]
      exact ⟨by simp [hsz],by simp;rw [hsz];have:=hl.1;omega⟩)]
     have hft:v.cells.zipIdx.foldl (fun cs x=>cs.setIfInBounds (off+x.2) x.1) us.toArray=us'.toArray:=by rw [<- f1]
     rw [show (fun (cs:Array Value) (x:Value × Nat)=>match x with | (c,j)=>cs.setIfInBounds (off+j) c)=(fun cs x=>cs.setIfInBounds (off+x.2) x.1) from rfl,hft]
     exact g1
    ·cases h
   ·cases h
  ·cases h
theorem LR.zero {g : Gh} {hp : List Ob} {w : World} (vs : List Value) : LR (CR g hp w) (vs.map .v) vs :=
 ⟨by simp, fun i x hx => by
  rw [gAC] at hx
  cases hv : vs[i]? with
  | none => rw [hv] at hx; cases hx
  | some v => rw [hv] at hx; cases hx; exact ⟨v, rfl, rfl⟩⟩
theorem Gp {g:Gh} {hp:List Ob} {w:World}:∀ {xs:List AV} {ids:List Nat} {vs:List Value},LS xs=some ids->vs.length=xs.length->
  (∀ (i:Nat) x v,xs[i]?=some x->vs[i]?=some v->AVR (CR g hp w) x v)->(∀ id∈ids,Bn hp id)/\vs=ids.map fun id=>Value.pointer (some ⟨g.γ (.ob id),0,none⟩)
 | [],ids,vs,h,hn,_=>by
  simp [LS] at h;subst h
  have:vs=[]:=gAt hn
  subst this;simp
 | x :: r,ids,vs,h,hn,hp'=>by
  obtain ⟨v,vs',rfl⟩:∃ y ys',vs=y :: ys':=by
   cases vs with
   | nil=>simp at hn
   | cons y ys'=>exact ⟨y,ys',rfl⟩
  unfold LS at h
  split at h
  ·rename_i heq;exact absurd heq (by simp)
  ·rename_i id r' heq
   simp only [gAl] at heq
   obtain ⟨rfl,rfl⟩:=heq
   cases hr:LS r with
   | none=>rw [hr] at h;cases h
   | some ids'=>
    rw [hr] at h
    simp at h;subst h
    obtain ⟨h1,h2⟩:=Gp (vs:=vs') hr (by simpa using hn) (fun i x v hx hv=>hp' (i+1) x v (by simpa using hx) (by simpa using hv))
    have h0:=hp' 0 _ _ rfl rfl
    obtain ⟨b1,b2⟩:=h0
    refine ⟨?_,by rw [h2,b2];rfl⟩
    intro i hi
    rcases gB2.1 hi with rfl | hi
    ·exact b1
    ·exact h1 i hi
  ·cases h

theorem C2 {g:Gh} {hp:List Ob} {w:World} {x:AV} {v y:Value} (hx:x=.a (.c (.v v))) (h:AVR (CR g hp w) x y):y=v:=by subst hx;exact h
theorem LR.get {R:C->Value->Prop} {xs:List C} {us:List Value} (h:LR R xs us) {i:Nat} (hi:i<xs.length):∃ u,us[i]?=some u/\R (xs.getD i .u) u:=by
 obtain ⟨u,h1,h2⟩:=h.2 i xs[i] (gE1 hi)
 exact ⟨u,h1,by simpa [List.getD,gE1 hi] using h2⟩
theorem ID {P:Program} {g:Gh} {hp:List Ob} {w:World} {xs:List C} {us:List Value} (hl:LR (CR g hp w) xs us) {t:TypeId} {off sz:Nat} {ag:Bool} (h1:off+sz<=xs.length) (h2:0<sz)
  (hs:∀ w,(sizeOf t).run P w=.ok sz w) (ha:∀ w,(isAgg t).run P w=.ok ag w):∃ v,(∀ W,(part t us.toArray off).run P W=.ok v W)/\A0R (CR g hp w) (M3 xs off sz ag) v:=by
 unfold part M3
 simp only [Sem.run_bind,ha,Result.andThen_ok]
 cases ag with
 | true=>
  simp only [if_true,Sem.run_bind,hs,Result.andThen_ok,Sem.run_pure]
  exact ⟨_,fun _=>rfl,(us.drop off).take sz,by simp,hl.part off sz h1⟩
 | false=>
  obtain ⟨u,e1,e2⟩:=hl.get (i:=off) (by omega)
  have e1':us.toArray[off]?=some u:=by simpa using e1
  simp only [gA5,if_false,e1',Sem.run_pure]
  exact ⟨u,fun _=>rfl,e2⟩
theorem Rd.cut {M:Nat->Prop} {w:World} {k:Nat} {cs:List Tr} {A:Option Addr} {n c:Nat} (h:Rd M w (.l k cs) (.slice A n c)) (hk:0<k) {i j:Nat} (hij:i<=j) (hj:j*k<=cs.length):
  Rd M w (.l k ((cs.drop (i*k)).take ((j - i)*k))) (.slice (Ol A c i k) (j - i) (c - i)):=by
 by_cases h0:j - i=0
 ·rw [h0];simp;exact .e _ _ _
 cases h with
 | e=>
  have:0<j*k:=Nat.mul_pos (by omega) hk
  simp at hj
  omega
 | l _ _ b off _ _ us hn h0' hc hM hb h1 h2=>
  have hjn:j<=n:=Nat.le_of_mul_le_mul_right (by rw [<- hn];exact hj) hk
  unfold Ol
  rw [if_neg (by omega)]
  simp only [gBH,Gn]
  refine .l k _ b (off+i*k) (j - i) (c - i) (fun q=>us (i*k+q)) ?_ (by omega) (by omega) hM hb (fun q t hq=>?_) (fun q t hq=>?_)
  rotate_left 2
  ·rw [gAF] at hq
   split at hq
   rotate_left
   ·cases hq
   rw [gAA] at hq
   exact h2 _ t hq
  ·rw [gAS,gAK,gBy]
   rw [Nat.sub_mul];omega
  rw [gAF] at hq
  split at hq
  rotate_left
  ·cases hq
  rw [gAA] at hq
  rw [Nat.add_assoc]
  exact h1 _ t hq
theorem Rd.form {M:Nat->Prop} {w:World} {k:Nat} {cs:List Tr} {v:Value} (h:Rd M w (.l k cs) v):∃ A n c,v=.slice A n c/\cs.length=n*k/\n<=c:=by
 cases h with
 | e=>exact ⟨_,_,_,rfl,by simp,by omega⟩
 | l _ _ b off n c us hn h0 hc=>exact ⟨_,_,_,rfl,hn,hc⟩

section
variable {P : Program} {g : Gh} {hp : List Ob} {w : World} {ρ : Operand -> Value} {ev : Operand -> AV} {c : Prop} {x : AV}
theorem IE (hR:∀ x,AVR (CR g hp w) (ev x) (ρ x)) {y a b:Operand} (h:M4 ev y a b=some (c,x)) (hc:c):
  ∃ v,(∀ W,(do pure (Next.value (if <- asBool (ρ y) then ρ a else ρ b)):Sem Next).run P W=.ok (.value v) W)/\AVR (CR g hp w) x v:=by
 unfold M4 at h
 split at h
 rotate_left
 ·cases h
 rename_i t hev
 simp only [gBI,gBJ] at h
 obtain ⟨_,rfl⟩:=h
 simp only [C2 hev (hR y),asBool,Sem.run_bind,Sem.run_pure,Result.andThen_ok]
 refine ⟨_,fun _=>rfl,?_⟩
 cases t
 ·exact hR b
 exact hR a
theorem L9 (hR:∀ x,AVR (CR g hp w) (ev x) (ρ x)) {o:Oper} {y:Operand} (ho:o.op=.nilCheck y) (h:T3 ev y=some (c,x)) (hc:c):∃ v,(∀ W,(execOp ρ o).run P W=.ok (.value v) W)/\AVR (CR g hp w) x v:=by
 have hy:=hR y
 unfold execOp
 simp only [ho]
 unfold T3 at h
 split at h
 rotate_left 2
 ·rename_i fn ids hev
  rw [hev] at hy
  simp only [gBI,gBJ] at h
  obtain ⟨_,rfl⟩:=h
  obtain ⟨b1,b2⟩:=hy
  rw [b2]
  exact ⟨_,fun W=>by simp [V2],b1,rfl⟩
 ·cases h
 ·rename_i id off hev
  rw [hev] at hy
  simp only [gBI,gBJ] at h
  obtain ⟨_,rfl⟩:=h
  obtain ⟨b1,b2⟩:=hy
  rw [b2]
  exact ⟨_,fun W=>by simp,b1,rfl⟩
 rename_i cs off hev
 rw [hev] at hy
 simp only [gBI,gBJ] at h
 obtain ⟨_,rfl⟩:=h
 obtain ⟨b,o',us,b2,rest⟩:=hy
 rw [b2]
 exact ⟨_,fun W=>by simp,b,o',us,rfl,rest⟩
theorem La (hR:∀ x,AVR (CR g hp w) (ev x) (ρ x)) {op:BinOp} {t:TypeId} {y z:Operand} (h:T4 P ev op t y z=some (c,x)) (hc:c):
  ∃ v,(∀ W,(do eqGuard op t y z (ρ y) (ρ z);binOp op t (ρ y) (ρ z):Sem Value).run P W=.ok v W)/\AVR (CR g hp w) x v:=by
 unfold T4 at h
 split at h
 rotate_left 2
 ·cases h
 ·rename_i a b ha hb
  split at h
  rotate_left
  ·cases h
  rename_i c' v hbin
  simp only [gBI,gBJ] at h
  obtain ⟨rfl,rfl⟩:=h
  rw [C2 ha (hR y),C2 hb (hR z)]
  exact ⟨v,fun W=>L7 hbin hc W,rfl⟩
 rename_i xs ys ha hb
 have hy:=hR y
 have hz:=hR z
 rw [ha] at hy;rw [hb] at hz
 obtain ⟨us,e1,e2⟩:=hy
 obtain ⟨vs,f1,f2⟩:=hz
 split at h
 rotate_left
 ·cases h
 rename_i us' vs' hu hv
 have hue:=IC hu (fun v y h=>h) e2
 have hve:=IC hv (fun v y h=>h) f2
 subst hue;subst hve
 split at h
 rotate_left 2
 ·cases h
 ·simp only [gBI,gBJ] at h
  obtain ⟨rfl,rfl⟩:=h
  rw [e1,f1]
  exact ⟨_,fun W=>hc W,rfl⟩
 simp only [gBI,gBJ] at h
 obtain ⟨rfl,rfl⟩:=h
 rw [e1,f1]
 exact ⟨_,fun W=>hc W,rfl⟩
theorem M8 (hR:∀ x,AVR (CR g hp w) (ev x) (ρ x)) {op:UnOp} {y:Operand} (h:V7 ev op y=some (c,x)) (hc:c):∃ v,(∀ W,(Op.unary op (ρ y)).run P W=.ok v W)/\AVR (CR g hp w) x v:=by
 unfold V7 at h
 split at h
 rotate_left
 ·cases h
 rename_i a ha
 split at h
 rotate_left
 ·cases h
 rename_i c' v hun
 simp only [gBI,gBJ] at h
 obtain ⟨rfl,rfl⟩:=h
 rw [C2 ha (hR y)]
 exact ⟨v,fun W=>M7 hun hc W,rfl⟩
theorem IF (hR:∀ x,AVR (CR g hp w) (ev x) (ρ x)) {s d:TypeId} {y:Operand} (h:M5 P ev s d y=some (c,x)) (hc:c):∃ v,(∀ W,(convert s d (ρ y)).run P W=.ok v W)/\AVR (CR g hp w) x v:=by
 unfold M5 at h
 split at h
 rotate_left
 ·cases h
 rename_i k0 n u k ha hs hd
 simp only [gBI,gBJ] at h
 obtain ⟨rfl,rfl⟩:=h
 rw [C2 ha (hR y)]
 refine ⟨_,fun W=>?_,rfl⟩
 unfold convert
 simp only [Sem.run_bind,run_underlying hs,run_underlying hd,Result.andThen_ok]
 cases u <;> simp [Conv.intToInt]
theorem HF (hR:∀ x,AVR (CR g hp w) (ev x) (ρ x)) {t:TypeId} {y:Operand} {f:Nat} (h:HB P ev t y f=some (c,x)) (hc:c):∃ v,(∀ W,(Instr.field t (ρ y) f).run P W=.ok v W)/\AVR (CR g hp w) x v:=by
 have hy:=hR y
 unfold HB at h
 split at h
 rotate_left
 ·cases h
 rename_i xs ty hev hty
 rw [hev] at hy
 obtain ⟨us,e1,e2⟩:=hy
 split at h
 rotate_left
 ·cases h
 rename_i off sz ag hk hf
 simp only [gBI,gBJ] at h
 obtain ⟨rfl,rfl⟩:=h
 obtain ⟨fs,g1,g2,g3⟩:=tyOf.struct hty hk
 rw [g3] at hf
 obtain ⟨fl,k1,k2,k3,k4⟩:=Q1 g2 hf
 obtain ⟨v,r1,r2⟩:=ID (P:=P) e2 hc.1 hc.2 k3 k4
 refine ⟨v,fun W=>?_,r2⟩
 rw [e1]
 simp only [Instr.field,Sem.run_bind,run_underlying g1,Result.andThen_ok,k1,asAgg,Sem.run_pure,k2]
 exact r1 W
theorem FD {t:TypeId} {y:Ty} (hty:tyOf P t=some y) (hk:y.kind=2) {f o sz:Nat} {ag:Bool} (hf:y.flds[f]?=some (o,sz,ag)) (hs:0<sz) (b off:Nat) (w:World):
  (Instr.fieldAt t (.pointer (some ⟨b,off,none⟩)) f).run P w=.ok (.pointer (some ⟨b,off+o,none⟩)) w:=by
 obtain ⟨fs,g1,g2,g3⟩:=tyOf.struct hty hk
 rw [g3] at hf
 obtain ⟨fl,k1,k2,k3,k4⟩:=Q1 g2 hf
 simp only [Instr.fieldAt,Sem.run_bind,run_underlying g1,Result.andThen_ok,k1,Instr.sureAddr,Sem.run_pure,fieldPlace,k3]
 rw [if_neg (by omega)]
 simp [k2,Gn]
theorem Fb (hR:∀ x,AVR (CR g hp w) (ev x) (ρ x)) {t:TypeId} {y:Operand} {f:Nat} (h:D4 P ev t y f=some (c,x)) (hc:c):∃ v,(∀ W,(Instr.fieldAt t (ρ y) f).run P W=.ok v W)/\AVR (CR g hp w) x v:=by
 have hy:=hR y
 unfold D4 at h
 split at h
 rotate_left 2
 ·cases h
 ·rename_i id off ty hev hty
  rw [hev] at hy
  obtain ⟨b1,b2⟩:=hy
  split at h
  rotate_left
  ·cases h
  rename_i o sz ag hk hf
  simp only [gBI,gBJ] at h
  obtain ⟨rfl,rfl⟩:=h
  rw [b2]
  exact ⟨_,fun W=>FD hty hk hf hc _ _ W,b1,rfl⟩
 rename_i cs off ty hev hty
 rw [hev] at hy
 obtain ⟨b,o',us,b2,rest⟩:=hy
 split at h
 rotate_left
 ·cases h
 rename_i o sz ag hk hf
 simp only [gBI,gBJ] at h
 obtain ⟨rfl,rfl⟩:=h
 rw [b2]
 exact ⟨_,fun W=>FD hty hk hf hc _ _ W,b,o',us,by rw [Nat.add_assoc],rest⟩
theorem HG {t:TypeId} {z:Nat} (h:F6 P t=some z):∃ e,P.underlying t=some (.slice e)/\∀ w,(sizeOf e).run P w=.ok z w:=by
 unfold F6 at h
 split at h
 rotate_left
 ·cases h
 rename_i y hty
 split at h
 rotate_left
 ·cases h
 rename_i ze hk hz
 simp at h;subst h
 exact ⟨_,tyOf.slice hty hk,fun w=>tyOf.size hz w⟩
theorem Ea {t:TypeId} {z:Nat} (hz:F6 P t=some z) {b off n cp:Nat} {k:IntKind} {i:Int} (h0:0<=i) (h1:i<n) (w:World):
  (Instr.indexAt t (.slice (some ⟨b,off,none⟩) n cp) (.int k i)).run P w=.ok (.pointer (some ⟨b,off+i.toNat*z,none⟩)) w:=by
 obtain ⟨e,h2,h3⟩:=HG hz
 simp only [Instr.indexAt,asIntOf,Sem.run_bind,Sem.run_pure,run_underlying h2,Result.andThen_ok]
 rw [if_pos ⟨h0,h1⟩]
 simp [h3,Gn]
theorem HH (hR:∀ x,AVR (CR g hp w) (ev x) (ρ x)) {t:TypeId} {y ix:Operand} (h:HD P ev t y ix=some (c,x)) (hc:c):∃ v,(∀ W,(Instr.indexAt t (ρ y) (ρ ix)).run P W=.ok v W)/\AVR (CR g hp w) x v:=by
 have hy:=hR y
 unfold HD at h
 split at h
 rotate_left 3
 ·cases h
 ·rename_i z id n kk i hz hev hi
  rw [hev] at hy
  obtain ⟨b1,b0,A,b2,b3,b4⟩:=hy
  simp only [gBI,gBJ] at h
  obtain ⟨rfl,rfl⟩:=h
  rw [C2 hi (hR ix),b2,b3 (by have:=hc.1;have:=hc.2;omega)]
  exact ⟨_,fun W=>Ea hz hc.1 hc.2 W,b1,by simp⟩
 ·rename_i z id off n k kk i hz hev hi
  rw [hev] at hy
  obtain ⟨b1,b2,b3,b4⟩:=hy
  simp only [gBI,gBJ] at h
  obtain ⟨rfl,rfl⟩:=h
  obtain ⟨c1,c2,rfl⟩:=hc
  rw [C2 hi (hR ix),b4]
  exact ⟨_,fun W=>Ea hz c1 c2 W,b1,by rw [Nat.add_mul]⟩
 rename_i z k cs kk i hz hev hi
 rw [hev] at hy
 simp only [gBI,gBJ] at h
 obtain ⟨rfl,rfl⟩:=h
 obtain ⟨c1,c2,c3⟩:=hc
 subst c3
 rw [C2 hi (hR ix)]
 generalize ρ y=yv at hy
 cases (show Rd _ _ _ _ from hy) with
 | e=>simp at c2
 | l _ _ b off n cp us hn h0 hcp hM hb h1 h2=>
  have hin:i<n:=by
   rw [hn] at c2
   have:=Nat.lt_of_mul_lt_mul_right c2
   omega
  exact ⟨_,fun W=>Ea hz c1 hin W,b,off,us,rfl,hM,hb,h1,h2⟩
theorem Lb (hR:∀ x,AVR (CR g hp w) (ev x) (ρ x)) {y:Operand} {i:Nat} (h:T5 ev y i=some (c,x)) (hc:c):∃ v,(∀ W,(Instr.extract (ρ y) i).run P W=.ok v W)/\AVR (CR g hp w) x v:=by
 have hy:=hR y
 unfold T5 at h
 split at h
 rotate_left
 ·cases h
 rename_i xs hev
 rw [hev] at hy
 obtain ⟨us,e1,e2,e3⟩:=hy
 split at h
 rotate_left
 ·cases h
 rename_i x' hx
 simp only [gBI,gBJ] at h
 obtain ⟨_,rfl⟩:=h
 obtain ⟨u,f1,f2⟩:=e3 i x' hx
 refine ⟨u,fun W=>?_,f2⟩
 rw [e1]
 simp [Instr.extract,f1]
theorem IG (hR:∀ x,AVR (CR g hp w) (ev x) (ρ x)) {fn:Fn} {first captured:Array Operand} (h:Oq ev fn first captured=some (c,x)) (hc:c):
  ∃ v,(∀ W,(Instr.makeFunc fn (first.map ρ) (captured.map ρ)).run P W=.ok v W)/\AVR (CR g hp w) x v:=by
 unfold Oq at h
 split at h
 rotate_left
 ·cases h
 rename_i f ids hfi hob
 simp only [gBI,gBJ] at h
 obtain ⟨_,rfl⟩:=h
 obtain ⟨h1,h2⟩:=Gp (g:=g) (hp:=hp) (w:=w) (vs:=captured.toList.map ρ) hob (by simp) (fun i x v hx hv=>by
  simp only [gAC,gBG] at hx hv
  obtain ⟨a,ha,rfl⟩:=hx
  obtain ⟨b,hb,rfl⟩:=hv
  rw [ha] at hb;cases hb
  exact hR a)
 have hf:first=#[]:=by
  have:=congrArg List.toArray hfi;simpa using this
 refine ⟨_,fun _=>rfl,h1,?_⟩
 subst hf
 unfold V2
 rw [<- h2]
 have:Array.map ρ captured=(List.map ρ captured.toList).toArray:=gA0 (by simp)
 rw [this];simp
theorem IH {fs:List Field} (h:fs.all (L5 P)=true):fs.mapM (fun f=>(P.info? f.type).map fun i=>(f.offset,i.size))=some (fs.map fun f=>(f.offset,((P.info? f.type).map (·.size)).getD 0)):=by
 induction fs with
 | nil=>simp
 | cons f fs ih=>
  simp only [gAf,gA1] at h
  obtain ⟨h1,h2⟩:=h
  simp only [L5,gA1,Option.isSome_iff_exists] at h1
  obtain ⟨⟨i,hi⟩,_⟩:=h1
  simp [List.mapM_cons,ih h2,hi]
theorem HI (hR:∀ x,AVR (CR g hp w) (ev x) (ρ x)) {t:TypeId} {parts:Array (Nat × Operand)} (h:HE P ev t parts=some (c,x)) (hc:c):
  ∃ v,(∀ W,(Instr.build t (parts.map fun (i,x)=>(i,ρ x))).run P W=.ok v W)/\AVR (CR g hp w) x v:=by
 unfold HE at h
 split at h
 rotate_left
 ·cases h
 rename_i y hty
 split at h
 rotate_left
 ·cases h
 rename_i cs hk hfill
 simp only [gBI,gBJ] at h
 obtain ⟨_,rfl⟩:=h
 obtain ⟨i,u,z,hi,hu,hz,hd,rfl⟩:=Dh hty
 cases u with
 | struct fs=>
  obtain ⟨r,r1,r2⟩:=E9 (g:=g) (hp:=hp) (w:=w) (vs:=(parts.map fun p=>(p.1,ρ p.2)).toList) hfill (LR.zero z.cells.toList) (by simp) (fun i p q hp1 hq1=>by
   simp only [gAC,Array.toList_map,gBG] at hp1 hq1
   obtain ⟨a,ha,rfl⟩:=hp1
   obtain ⟨b,hb,rfl⟩:=hq1
   rw [ha] at hb;cases hb
   exact ⟨rfl,hR _⟩)
  refine ⟨_,fun W=>run_build W t _ r.toArray ?_,r,rfl,r2⟩
  unfold Program.built
  simp only [hi,hu,hz,IH hd]
  rw [<- r1]
  congr 1
  funext i
  simp [L4]
  cases fs[i]? <;> rfl
 | _=>simp [HA] at hk
theorem DJ {t:TypeId} {z:Nat} (hz:F6 P t=some z):∃ e,P.underlying t=some (.slice e)/\P.elem t=e/\∀ w,(sizeOf e).run P w=.ok z w:=by
 obtain ⟨e,h2,h3⟩:=HG hz
 exact ⟨e,h2,by unfold Program.elem;rw [h2],h3⟩
theorem DK {t e:TypeId} (h:P.underlying t=some (.slice e)) (x:Value) (lo hi mx:Option Value) (w:World):(Instr.sliceAt t x lo hi mx).run P w=(Instr.slice t x lo hi mx).run P w:=by
 simp only [Instr.sliceAt,Sem.run_bind,run_underlying h,Result.andThen_ok]
theorem HJ (hR:∀ x,AVR (CR g hp w) (ev x) (ρ x)) {t:TypeId} {y:Operand} {lo hi mx:Option Operand} (h:JF P ev t y lo hi mx=some (c,x)) (hc:c):
  ∃ v,(∀ W,(Instr.sliceAt t (ρ y) (lo.map ρ) (hi.map ρ) (mx.map ρ)).run P W=.ok v W)/\AVR (CR g hp w) x v:=by
 have hy:=hR y
 unfold JF at h
 split at h
 rotate_left 4
 ·cases h
 ·rename_i z id n kk hh hz hev hlo hhi
  rw [hev] at hy
  simp only [gBI,gBJ] at h
  obtain ⟨rfl,rfl⟩:=h
  obtain ⟨b1,b0,A,b2,b3,b4⟩:=hy
  obtain ⟨e,h2,h4,h3⟩:=DJ hz
  have hlo':lo=none:=by cases lo <;> simp at hlo ⊢
  subst hlo'
  obtain ⟨hx,rfl⟩:∃ hx,hi=some hx:=by cases hi with | none=>simp at hhi | some hx=>exact ⟨hx,rfl⟩
  simp at hhi
  rw [b2]
  simp only [Option.map_none,gBH,C2 hhi (hR hx)]
  refine ⟨.slice A hh.toNat (g.κ id),fun W=>?_,b1,by omega,A,rfl,b3,b4⟩
  rw [DK h2,run_slice_h W t _ _ _ (by rw [h4];exact h2) _ hh hc.1 (by omega),h4,h3]
  have:∀ A:Option Addr,A.map (·.add 0)=A:=by intro A;cases A <;> simp [Addr.add]
  simp [sliced,Result.andThen,this]
 ·rename_i z id n kk hh hz hev hlo hhi
  rw [hev] at hy
  simp only [gBI,gBJ] at h
  obtain ⟨rfl,rfl⟩:=h
  obtain ⟨c1,c2⟩:=hc
  obtain ⟨b1,b0,A,b2,b3,b4⟩:=hy
  obtain ⟨e,h2,h4,h3⟩:=DJ hz
  have hhi':hi=none:=by cases hi <;> simp at hhi ⊢
  subst hhi'
  obtain ⟨hx,rfl⟩:∃ hx,lo=some hx:=by cases lo with | none=>simp at hlo | some hx=>exact ⟨hx,rfl⟩
  simp at hlo
  rw [b2,b3 (by omega)]
  simp only [Option.map_none,gBH,C2 hlo (hR hx)]
  refine ⟨.slice (some ⟨g.γ (.ob id),hh.toNat*z,none⟩) (n - hh.toNat) (g.κ id - hh.toNat),fun W=>?_,b1,by omega,by omega,rfl⟩
  rw [DK h2,run_slice_l W t _ _ _ (by rw [h4];exact h2) _ hh c1 (by omega),h4,h3]
  have hne:¬ g.κ id=hh.toNat:=by omega
  by_cases h0:hh.toNat*z=0 <;> simp only [sliced,Result.andThen,gBH,Addr.add,hne,h0,if_false,if_true,reduceIte,gBD]
 ·rename_i z k cs kk hh hz hev hlo hhi
  rw [hev] at hy
  simp only [gBI,gBJ] at h
  obtain ⟨rfl,rfl⟩:=h
  obtain ⟨c1,c2,c3,c4⟩:=hc
  subst c3
  obtain ⟨e,h2,h4,h3⟩:=DJ hz
  have hlo':lo=none:=by cases lo <;> simp at hlo ⊢
  subst hlo'
  obtain ⟨hx,rfl⟩:∃ hx,hi=some hx:=by cases hi with | none=>simp at hhi | some hx=>exact ⟨hx,rfl⟩
  simp at hhi
  obtain ⟨A,n,cp,e1,e2,e3⟩:=Rd.form hy
  have hle:hh.toNat<=n:=Nat.le_of_mul_le_mul_right (by rw [<- e2];exact c2) c4
  rw [e1] at hy ⊢
  simp only [Option.map_none,gBH,C2 hhi (hR hx)]
  have hcut:=Rd.cut (show Rd _ _ _ _ from hy) c4 (i:=0) (j:=hh.toNat) (by omega) c2
  refine ⟨.slice (Ol A cp 0 z) (hh.toNat - 0) (cp - 0),fun W=>?_,(by simpa using hcut:Rd (Ow hp g) w (.l z (List.take (hh.toNat*z) cs)) _)⟩
  rw [DK h2,run_slice_h W t _ _ _ (by rw [h4];exact h2) _ hh c1 (by omega),h4,h3]
  simp [sliced,Result.andThen,Ol]
 rename_i z k cs kk hh hz hev hlo hhi
 rw [hev] at hy
 simp only [gBI,gBJ] at h
 obtain ⟨rfl,rfl⟩:=h
 obtain ⟨c1,c2,c3,c4⟩:=hc
 subst c3
 obtain ⟨e,h2,h4,h3⟩:=DJ hz
 have hhi':hi=none:=by cases hi <;> simp at hhi ⊢
 subst hhi'
 obtain ⟨hx,rfl⟩:∃ hx,lo=some hx:=by cases lo with | none=>simp at hlo | some hx=>exact ⟨hx,rfl⟩
 simp at hlo
 obtain ⟨A,n,cp,e1,e2,e3⟩:=Rd.form hy
 have hle:hh.toNat<=n:=Nat.le_of_mul_le_mul_right (by rw [<- e2];exact c2) c4
 rw [e1] at hy ⊢
 simp only [Option.map_none,gBH,C2 hlo (hR hx)]
 have hcut:=Rd.cut (show Rd _ _ _ _ from hy) c4 (i:=hh.toNat) (j:=n) hle (by rw [e2];exact gBu _)
 refine ⟨.slice (Ol A cp hh.toNat z) (n - hh.toNat) (cp - hh.toNat),fun W=>?_,?_⟩
 rotate_left
 ·rw [gE7 (by rw [gAK,e2,Nat.sub_mul];exact gBu _)] at hcut
  exact hcut
 rw [DK h2,run_slice_l W t _ _ _ (by rw [h4];exact h2) _ hh c1 (by omega),h4,h3]
 simp [sliced,Result.andThen,Ol]
theorem Lc (hR:∀ x,AVR (CR g hp w) (ev x) (ρ x)) {t:TypeId} {y:Operand} (h:T6 P ev t y=some (c,x)) (hc:c):∃ v,(∀ W,(Builtin.len_ #[t] 3 #[ρ y]).run P W=.ok v W)/\AVR (CR g hp w) x v:=by
 have hy:=hR y
 unfold T6 at h
 split at h
 rotate_left
 ·cases h
 rename_i ty hty
 split at h
 rotate_left 3
 ·rename_i A n cp hk hev
  rw [C2 hev hy]
  simp only [gBI,gBJ] at h
  obtain ⟨rfl,rfl⟩:=h
  refine ⟨_,fun W=>?_,rfl⟩
  simp [Builtin.len_,run_underlying (tyOf.slice hty hk),goInt]
 ·rename_i s hk hev
  rw [C2 hev hy]
  simp only [gBI,gBJ] at h
  obtain ⟨rfl,rfl⟩:=h
  refine ⟨_,fun W=>?_,rfl⟩
  obtain ⟨i,u,z,hi,hu,hz,hd,rfl⟩:=Dh hty
  cases u <;> simp [HA] at hk
  simp [Builtin.len_,run_underlying hu,goInt]
 ·cases h
 ·rename_i id n hk hev
  rw [hev] at hy
  simp only [gBI,gBJ] at h
  obtain ⟨rfl,rfl⟩:=h
  obtain ⟨b1,b0,A,b2,b3,b4⟩:=hy
  rw [b2]
  refine ⟨_,fun W=>?_,rfl⟩
  simp [Builtin.len_,run_underlying (tyOf.slice hty hk),goInt]
 ·rename_i id off n k hk hev
  rw [hev] at hy
  simp only [gBI,gBJ] at h
  obtain ⟨rfl,rfl⟩:=h
  obtain ⟨b1,b2,b3,b4⟩:=hy
  rw [b4]
  refine ⟨_,fun W=>?_,rfl⟩
  simp [Builtin.len_,run_underlying (tyOf.slice hty hk),goInt]
 rename_i k cs hk hev
 rw [hev] at hy
 simp only [gBI,gBJ] at h
 obtain ⟨rfl,rfl⟩:=h
 obtain ⟨A,n,cp,e1,e2,e3⟩:=Rd.form hy
 rw [e1]
 refine ⟨_,fun W=>?_,rfl⟩
 rw [e2,Nat.mul_div_cancel _ hc]
 simp [Builtin.len_,run_underlying (tyOf.slice hty hk),goInt]
theorem Gq (hR:∀ x,AVR (CR g hp w) (ev x) (ρ x)) {mx:Bool} {y z:Operand} (h:SR ev mx y z=some (c,x)) (hc:c) (ts:Array TypeId) (ty:TypeId):
  ∃ v,(∀ W,((if mx then Builtin.max_ ts ty #[ρ y,ρ z] else Builtin.min_ ts ty #[ρ y,ρ z])).run P W=.ok v W)/\AVR (CR g hp w) x v:=by
 unfold SR at h
 split at h
 rotate_left
 ·cases h
 rename_i a b ha hb
 rw [C2 ha (hR y),C2 hb (hR z)]
 simp only [gBI,gBJ] at h
 obtain ⟨rfl,rfl⟩:=h
 cases mx
 ·exact ⟨_,fun W=>by simp [Builtin.min_,Builtin.min2],rfl⟩
 exact ⟨_,fun W=>by simp [Builtin.max_,Builtin.max2],rfl⟩
theorem II (hR:∀ x,AVR (CR g hp w) (ev x) (ρ x)) {cl:Call} {ty:TypeId} (h:M6 P ev cl=some (c,x)) (hc:c):
  ∃ v,(∀ W,(do let d <- resolve ρ cl ty;invoke d.target d.args:Sem Next).run P W=.ok (.value v) W)/\AVR (CR g hp w) x v:=by
 obtain ⟨callee,args,ts⟩:=cl
 unfold M6 at h
 simp only at h
 split at h
 rotate_left
 ·rename_i _ y z ha
  obtain ⟨v,h1,h2⟩:=Gq (P:=P) hR h hc ts ty
  refine ⟨v,fun W=>?_,h2⟩
  have ha':args=#[y,z]:=by apply gA0;simpa using ha
  subst ha'
  simp only [resolve,invoke,builtin,Sem.run_bind,Sem.run_pure,Result.andThen_ok,gAZ,gAV,gAX]
  have h1:=h1 W
  simp only [gA5,if_false] at h1
  rw [h1];rfl
 ·rename_i _ y z ha
  obtain ⟨v,h1,h2⟩:=Gq (P:=P) hR h hc ts ty
  refine ⟨v,fun W=>?_,h2⟩
  have ha':args=#[y,z]:=by apply gA0;simpa using ha
  subst ha'
  simp only [resolve,invoke,builtin,Sem.run_bind,Sem.run_pure,Result.andThen_ok,gAZ,gAV,gAX]
  have h1:=h1 W
  simp only [if_true] at h1
  rw [h1];rfl
 ·cases h
 rename_i y t ha ht
 obtain ⟨v,h1,h2⟩:=Lc hR h hc
 refine ⟨v,fun W=>?_,h2⟩
 have ha':args=#[y]:=by apply gA0;simpa using ha
 have ht':ts=#[t]:=by apply gA0;simpa using ht
 subst ha';subst ht'
 simp only [resolve,invoke,builtin,Sem.run_bind,Sem.run_pure,Result.andThen_ok,gAZ,gAV,gAX]
 have h1':(Builtin.len_ #[t] ty #[ρ y]).run P W=.ok v W:=h1 W
 rw [h1'];rfl
theorem FE (hR:∀ x,AVR (CR g hp w) (ev x) (ρ x)) {o:Oper} (h:V8 P o.op ev=some (c,x)) (hc:c):∃ v,(∀ W,(execOp ρ o).run P W=.ok (.value v) W)/\AVR (CR g hp w) x v:=by
 have lift:∀ {s:Sem Value},(∃ v,(∀ W,s.run P W=.ok v W)/\AVR (CR g hp w) x v)->∃ v,(∀ W,(do pure (Next.value (<- s)):Sem Next).run P W=.ok (.value v) W)/\AVR (CR g hp w) x v:=by
  rintro s ⟨v,h1,h2⟩
  exact ⟨v,by simp [h1],h2⟩
 obtain ⟨dst,op,ty,pos,af,gd⟩:=o
 simp only at h
 cases op <;> simp only [V8] at h <;> (try (cases h;done))
 case move y=>simp only [gBI,gBJ] at h;obtain ⟨_,rfl⟩:=h;exact ⟨_,fun W=>by simp [execOp],hR y⟩
 case assign y=>simp only [gBI,gBJ] at h;obtain ⟨_,rfl⟩:=h;exact ⟨_,fun W=>by simp [execOp],hR y⟩
 case pick=>exact IE hR h hc
 case nilCheck y=>exact L9 hR (o:=⟨dst,.nilCheck y,ty,pos,af,gd⟩) rfl h hc
 case binOp=>exact lift (La hR h hc)
 case unOp=>exact lift (M8 hR h hc)
 case convert=>exact lift (IF hR h hc)
 case field=>exact lift (HF hR h hc)
 case fieldAddr=>exact lift (Fb hR h hc)
 case indexAddr=>exact lift (HH hR h hc)
 case extract=>exact lift (Lb hR h hc)
 case makeFunc=>exact lift (IG hR h hc)
 case build=>exact lift (HI hR h hc)
 case slice=>exact lift (HJ hR h hc)
 case call=>exact II hR h hc
end
end Go.Proofs.YtbnabodoabimnaaGreat
